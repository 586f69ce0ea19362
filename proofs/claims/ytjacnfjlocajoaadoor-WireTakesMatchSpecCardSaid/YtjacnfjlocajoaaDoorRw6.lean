/-
  The document's take, Take and Offset. No statement of the seat is proved here; no conditions.
-/
import Derived.Test.YtjacnfjlocajoaaDoorRw5
import Derived.Test.YtjacnfjlocajoaaDoorWrT
namespace Go.Proofs.YtjacnfjlocajoaaDoor
open Go.RowKit Go.Shelf
set_option linter.unusedVariables false
set_option linter.unusedSimpArgs false
set_option maxRecDepth 100000

theorem ckMg_bounds {m : Mg} {many : Int} (h : ckMg m many = 0) : m.2.2.1 ≤ 2000000 ∧ many ≤ 65536 := by
 unfold ckMg at h
 split at h
 ·cases h
 split at h
 ·cases h
 split at h
 ·cases h
 rename_i h3
 split at h
 ·cases h
 rename_i h4
 simp only [Bool.not_eq_false,Bool.and_eq_true] at h3
 exact ⟨(rg_iff.1 h3.1).2,by omega⟩
set_option maxHeartbeats 8000000 in
theorem take_z (D : List Ob) (P : List Pt) (m : Mg) (h : ROk (D,P)) (hc : ckMg m m.2.2.2.2.length = 0) : FRet Tryd.prog 35 [aRc (D,P),aMg m] (rRM (takeR D P m)) := by
 have hk := h.tk
 obtain ⟨hD,hrD,hP,hrP⟩ := hk
 have hpo := h.p.ok
 have kd := doneOf_f (D,P) m.2.1 (by dsimp only;omega)
 have kp := partOf_f (D,P) m.2.1 (by dsimp only;omega)
 have kb := begin_z D P m h.tk
 have kt := fun (p : Pt) (hp : p ∈ P) (mk sz : Int) (t : ByteArray) (f : Nat) (b : List UInt8) (hb : b.length ≤ 200000) (hf : f ≤ 2000000) => data_z D P p mk sz t f b h.tk (by have := hpo p hp;omega) hb hf (by have := hpo p hp;omega)
 have hp1 := ckMg_parts hc
 have hp2 := ckMg_bounds hc
 obtain ⟨mk,t,fr,sz,b⟩ := m
 dsimp only at kd kp kb hp1 hp2 ⊢
 clear h hpo hc
 have hbl : b.length ≤ 200000 := by have := hp2.2;omega
 obtain ⟨f,rfl⟩ := Int.eq_ofNat_of_zero_le hp1.2.1
 have hfl : f ≤ 2000000 := by have := hp2.1;omega
 clear hp1 hp2
 replace kt := hide kt
 have ha := part_ix hrP t
 have hb := done_ix hrD t
 replace hrD := hide hrD
 replace hrP := hide hrP
 unfold takeR
 dsimp only
 refine FCall.frz (FCall.of_ax low_ref8_take ?_)
 dsimp only [l_ref8_take,aMg,fMg,List.map] at kb ⊢
 refine srun_sound 300 _ _ _ _ ?_
 by_cases c1 : mk ≠ 1 ∧ mk ≠ 2 ∧ mk ≠ 6
 ·rw [if_pos c1]
  have d1 := dcF c1.1
  have d2 := dcF c1.2.1
  have d3 := dcF c1.2.2
  clear kd kp kb kt ha hb
  dsimp only [aRc]
  repeat' (first
   | (simp -implicitDefEqProofs only [*,zr,Nat.reduceAdd,Nat.reduceSub,Nat.reduceMul,Nat.reduceLT,Nat.reduceLeDiff,Nat.reduceEqDiff,Nat.reduceBEq,reduceIte,reduceCtorEq,Int.reduceLE,Int.reduceLT,Int.reduceToNat,Int.reduceEq,Int.reduceNe])
   | ((first|apply zk0|apply zk1|apply zk2|apply zk3|apply zk4|apply zk5|apply zk6|apply zk7|apply zk8|apply zk9) <;> intro hc)
   |(refine callP0 rfl ?_)
   |(refine callD0 rfl ?_)
   | fail)
  exact z_ff
 rw [if_neg c1]
 have c2 : mk = 1 ∨ mk = 2 ∨ mk = 6 := by omega
 clear c1
 rcases hb with ⟨b1,b2,b3⟩ | ⟨i,o,b1,b2,b3,b4,b5⟩
 case inr =>
  rw [b2,if_pos rfl]
  rw [b3] at kd
  have i1 : decide ((i : Int) ≥ 0) = true := by simp
  have i1' : decide (0 ≤ (i : Int)) = true := by simp
  clear kp kb kt ha b1 b2 b3 b4 b5
  dsimp only [aRc] at kd ⊢
  rcases c2 with rfl | rfl | rfl
  ·repeat' (first
    | (simp -implicitDefEqProofs only [*,zr,Nat.reduceAdd,Nat.reduceSub,Nat.reduceMul,Nat.reduceLT,Nat.reduceLeDiff,Nat.reduceEqDiff,Nat.reduceBEq,reduceIte,reduceCtorEq,Int.reduceLE,Int.reduceLT,Int.reduceToNat,Int.reduceEq,Int.reduceNe])
    | ((first|apply zk0|apply zk1|apply zk2|apply zk3|apply zk4|apply zk5|apply zk6|apply zk7|apply zk8|apply zk9) <;> intro hc)
    |(refine callP0 rfl ?_)
    |(refine callD0 rfl ?_)
    |(refine cP (kd) ?_)
    |(refine cD (kd) ?_)
    |(refine cF (kd) ?_)
    | fail)
   exact z_ff
  ·repeat' (first
    | (simp -implicitDefEqProofs only [*,zr,Nat.reduceAdd,Nat.reduceSub,Nat.reduceMul,Nat.reduceLT,Nat.reduceLeDiff,Nat.reduceEqDiff,Nat.reduceBEq,reduceIte,reduceCtorEq,Int.reduceLE,Int.reduceLT,Int.reduceToNat,Int.reduceEq,Int.reduceNe])
    | ((first|apply zk0|apply zk1|apply zk2|apply zk3|apply zk4|apply zk5|apply zk6|apply zk7|apply zk8|apply zk9) <;> intro hc)
    |(refine callP0 rfl ?_)
    |(refine callD0 rfl ?_)
    |(refine cP (kd) ?_)
    |(refine cD (kd) ?_)
    |(refine cF (kd) ?_)
    | fail)
   exact z_ff
  ·repeat' (first
    | (simp -implicitDefEqProofs only [*,zr,Nat.reduceAdd,Nat.reduceSub,Nat.reduceMul,Nat.reduceLT,Nat.reduceLeDiff,Nat.reduceEqDiff,Nat.reduceBEq,reduceIte,reduceCtorEq,Int.reduceLE,Int.reduceLT,Int.reduceToNat,Int.reduceEq,Int.reduceNe])
    | ((first|apply zk0|apply zk1|apply zk2|apply zk3|apply zk4|apply zk5|apply zk6|apply zk7|apply zk8|apply zk9) <;> intro hc)
    |(refine callP0 rfl ?_)
    |(refine callD0 rfl ?_)
    |(refine cP (kd) ?_)
    |(refine cD (kd) ?_)
    |(refine cF (kd) ?_)
    | fail)
   exact z_ff
 rw [b2,if_neg (show ¬ (false = true) from fun h => by cases h)]
 rw [b3] at kd
 have i1 : decide ((-1 : Int) ≥ 0) = false := rfl
 clear b1 b2 b3
 by_cases c3 : mk = 1
 ·rw [if_pos c3]
  subst c3
  clear kp kt ha
  generalize beginR D P t sz = V at *
  obtain ⟨q,⟨E,F⟩,a1,a2,a3,a4,a5⟩ := V
  dsimp only [rRM,fMg,List.map,aRc,rInt] at kd kb ⊢
  repeat' (first
   | (simp -implicitDefEqProofs only [*,zr,Nat.reduceAdd,Nat.reduceSub,Nat.reduceMul,Nat.reduceLT,Nat.reduceLeDiff,Nat.reduceEqDiff,Nat.reduceBEq,reduceIte,reduceCtorEq,Int.reduceLE,Int.reduceLT,Int.reduceToNat,Int.reduceEq,Int.reduceNe])
   | ((first|apply zk0|apply zk1|apply zk2|apply zk3|apply zk4|apply zk5|apply zk6|apply zk7|apply zk8|apply zk9) <;> intro hc)
   |(refine callP0 rfl ?_)
   |(refine callD0 rfl ?_)
   |(refine cP (kd) ?_)
   |(refine cD (kd) ?_)
   |(refine cF (kd) ?_)
   |(refine cP (kb) ?_)
   |(refine cD (kb) ?_)
   |(refine cF (kb) ?_)
   | fail)
  exact z_vv
 rw [if_neg c3]
 have d1 := dcF c3
 clear kb
 rcases ha with ⟨e1,e2⟩ | ⟨i,p,e1,e2,e3,e4⟩
 ·rw [e1]
  rw [e2] at kp
  dsimp only
  have i2 : decide ((-1 : Int) < 0) = true := rfl
  clear kt e1 e2
  dsimp only [aRc] at kd kp ⊢
  have c2' : mk = 2 ∨ mk = 6 := c2.resolve_left c3
  clear c2 c3
  rcases c2' with rfl | rfl
  ·repeat' (first
    | (simp -implicitDefEqProofs only [*,zr,Nat.reduceAdd,Nat.reduceSub,Nat.reduceMul,Nat.reduceLT,Nat.reduceLeDiff,Nat.reduceEqDiff,Nat.reduceBEq,reduceIte,reduceCtorEq,Int.reduceLE,Int.reduceLT,Int.reduceToNat,Int.reduceEq,Int.reduceNe])
    | ((first|apply zk0|apply zk1|apply zk2|apply zk3|apply zk4|apply zk5|apply zk6|apply zk7|apply zk8|apply zk9) <;> intro hc)
    |(refine callP0 rfl ?_)
    |(refine callD0 rfl ?_)
    |(refine cP (kd) ?_)
    |(refine cD (kd) ?_)
    |(refine cF (kd) ?_)
    |(refine cP (kp) ?_)
    |(refine cD (kp) ?_)
    |(refine cF (kp) ?_)
    | fail)
   exact z_ff
  ·repeat' (first
    | (simp -implicitDefEqProofs only [*,zr,Nat.reduceAdd,Nat.reduceSub,Nat.reduceMul,Nat.reduceLT,Nat.reduceLeDiff,Nat.reduceEqDiff,Nat.reduceBEq,reduceIte,reduceCtorEq,Int.reduceLE,Int.reduceLT,Int.reduceToNat,Int.reduceEq,Int.reduceNe])
    | ((first|apply zk0|apply zk1|apply zk2|apply zk3|apply zk4|apply zk5|apply zk6|apply zk7|apply zk8|apply zk9) <;> intro hc)
    |(refine callP0 rfl ?_)
    |(refine callD0 rfl ?_)
    |(refine cP (kd) ?_)
    |(refine cD (kd) ?_)
    |(refine cF (kd) ?_)
    |(refine cP (kp) ?_)
    |(refine cD (kp) ?_)
    |(refine cF (kp) ?_)
    | fail)
   exact z_ff
 rw [e1]
 rw [e2] at kp
 dsimp only
 have i2 : decide ((i : Int) < 0) = false := by simp
 have i3 : ((i : Int) < (P.length : Int)) := by exact Int.ofNat_lt.2 (List.getElem?_eq_some_iff.1 e3).1
 have hmem := List.mem_of_getElem? e3
 by_cases c4 : mk = 6
 ·rw [if_pos c4]
  subst c4
  obtain ⟨pd,ps,pb⟩ := p
  clear kt e1 e2 hmem e4
  dsimp only [aRc,frPts] at kd kp ⊢
  repeat' (first
   | (simp -implicitDefEqProofs only [*,List.getElem?_map,Option.map_some,List.length_map,fPt,frB,zr,Nat.reduceAdd,Nat.reduceSub,Nat.reduceMul,Nat.reduceLT,Nat.reduceLeDiff,Nat.reduceEqDiff,Nat.reduceBEq,reduceIte,reduceCtorEq,Int.reduceLE,Int.reduceLT,Int.reduceToNat,Int.reduceEq,Int.reduceNe])
   | ((first|apply zk0|apply zk1|apply zk2|apply zk3|apply zk4|apply zk5|apply zk6|apply zk7|apply zk8|apply zk9) <;> intro hc)
   |(refine callP0 rfl ?_)
   |(refine callD0 rfl ?_)
   |(refine cP (kd) ?_)
   |(refine cD (kd) ?_)
   |(refine cF (kd) ?_)
   |(refine cP (kp) ?_)
   |(refine cD (kp) ?_)
   |(refine cF (kp) ?_)
   | fail)
  exact z_ff (P := P)
 rw [if_neg c4]
 have c5 : mk = 2 := by omega
 subst c5
 have kw := kt.out p hmem 2 sz t f b hbl hfl
 generalize dataR D P p f b = V at *
 obtain ⟨q,⟨E,F⟩,a1,a2,a3,a4,a5⟩ := V
 obtain ⟨pd,ps,pb⟩ := p
 clear kt e1 e2 hmem e4
 dsimp only [rRM,fMg,fPt,List.map,aRc,rInt,frPts,aMg,frB] at kd kp kw ⊢
 repeat' (first
  | (simp -implicitDefEqProofs only [*,List.getElem?_map,Option.map_some,List.length_map,fPt,frB,zr,Nat.reduceAdd,Nat.reduceSub,Nat.reduceMul,Nat.reduceLT,Nat.reduceLeDiff,Nat.reduceEqDiff,Nat.reduceBEq,reduceIte,reduceCtorEq,Int.reduceLE,Int.reduceLT,Int.reduceToNat,Int.reduceEq,Int.reduceNe])
  | ((first|apply zk0|apply zk1|apply zk2|apply zk3|apply zk4|apply zk5|apply zk6|apply zk7|apply zk8|apply zk9) <;> intro hc)
  |(refine callP0 rfl ?_)
  |(refine callD0 rfl ?_)
  |(refine cP (kd) ?_)
  |(refine cD (kd) ?_)
  |(refine cF (kd) ?_)
  |(refine cP (kp) ?_)
  |(refine cD (kp) ?_)
  |(refine cF (kp) ?_)
  |(refine cP (kw) ?_)
  |(refine cD (kw) ?_)
  |(refine cF (kw) ?_)
  | fail)
 exact z_vv (P := F)
set_option maxHeartbeats 4000000 in
theorem TakeR_f (r : Rc) (m : Mg) (hr : RcS r) : FRet Tryd.prog 17 [aRc r,aMg m] (rRM (TakeV r m)) := by
 have kc := CheckReceiverR_f r hr.l hr.b
 have km := checkMessageR_f m
 obtain ⟨D,P⟩ := r
 clear hr
 unfold TakeV
 refine FCall.frz (FCall.of_ax low_ref8_Take ?_)
 dsimp only [l_ref8_Take]
 refine srun_sound 300 _ _ _ _ ?_
 by_cases h0 : ckRc (D,P) = 0
 case neg =>
  rw [if_pos h0]
  have d1 := dcF h0
  generalize ckRc (D,P) = q at *
  obtain ⟨mk,t,fr,sz,b⟩ := m
  dsimp only [aRc,aMg,fMg,List.map] at kc ⊢
  replace h0 := hide h0
  clear km
  repeat' (first
   | (simp -implicitDefEqProofs only [*,zr,Nat.reduceAdd,Nat.reduceSub,Nat.reduceMul,Nat.reduceLT,Nat.reduceLeDiff,Nat.reduceEqDiff,Nat.reduceBEq,reduceIte,reduceCtorEq,Int.reduceLE,Int.reduceLT,Int.reduceToNat,Int.reduceEq,Int.reduceNe])
   | ((first|apply zk0|apply zk1|apply zk2|apply zk3|apply zk4|apply zk5|apply zk6|apply zk7|apply zk8|apply zk9) <;> intro hc)
   |(refine callP0 rfl ?_)
   |(refine callD0 rfl ?_)
   |(refine cP (kc) ?_)
   |(refine cD (kc) ?_)
   |(refine cF (kc) ?_)
   | fail)
  exact z_nn
 rw [if_neg (fun h => h h0)]
 rw [h0] at kc
 have hok := ckRc_iff.1 h0
 by_cases hm : ckMg m m.2.2.2.2.length = 0
 case neg =>
  have e : takeV D P m = (ckMg m m.2.2.2.2.length,(D,P),mg0) := by unfold takeV;rw [if_pos hm]
  rw [e]
  dsimp only
  rw [if_pos hm]
  have d1 := dcF hm
  generalize ckMg m m.2.2.2.2.length = q at *
  obtain ⟨mk,t,fr,sz,b⟩ := m
  dsimp only [aRc,aMg,fMg,List.map] at kc km ⊢
  replace hm := hide hm
  clear hok h0
  repeat' (first
   | (simp -implicitDefEqProofs only [*,zr,Nat.reduceAdd,Nat.reduceSub,Nat.reduceMul,Nat.reduceLT,Nat.reduceLeDiff,Nat.reduceEqDiff,Nat.reduceBEq,reduceIte,reduceCtorEq,Int.reduceLE,Int.reduceLT,Int.reduceToNat,Int.reduceEq,Int.reduceNe])
   | ((first|apply zk0|apply zk1|apply zk2|apply zk3|apply zk4|apply zk5|apply zk6|apply zk7|apply zk8|apply zk9) <;> intro hc)
   |(refine callP0 rfl ?_)
   |(refine callD0 rfl ?_)
   |(refine cP (kc) ?_)
   |(refine cD (kc) ?_)
   |(refine cF (kc) ?_)
   |(refine cP (km) ?_)
   |(refine cD (km) ?_)
   |(refine cF (km) ?_)
   | fail)
  exact z_nn
 rw [hm] at km
 have kt := take_z D P m hok hm
 have hS := take_same hok.p hm
 obtain ⟨s1,s2⟩ := hS
 generalize hV : takeV D P m = V at *
 clear hok hV
 by_cases h1 : V.1 = 0
 ·have s3 := s2 h1
  rw [s3] at kt
  rw [if_neg (fun h => h h1)]
  clear s1 s2 s3
  obtain ⟨q,⟨E,F⟩,a1,a2,a3,a4,a5⟩ := V
  dsimp only at h1
  subst h1
  obtain ⟨mk,t,fr,sz,b⟩ := m
  dsimp only [rRM,aRc,aMg,fMg,List.map,rInt] at kc km kt ⊢
  clear hm h0
  repeat' (first
   | (simp -implicitDefEqProofs only [*,zr,Nat.reduceAdd,Nat.reduceSub,Nat.reduceMul,Nat.reduceLT,Nat.reduceLeDiff,Nat.reduceEqDiff,Nat.reduceBEq,reduceIte,reduceCtorEq,Int.reduceLE,Int.reduceLT,Int.reduceToNat,Int.reduceEq,Int.reduceNe])
   | ((first|apply zk0|apply zk1|apply zk2|apply zk3|apply zk4|apply zk5|apply zk6|apply zk7|apply zk8|apply zk9) <;> intro hc)
   |(refine callP0 rfl ?_)
   |(refine callD0 rfl ?_)
   |(refine cP (kc) ?_)
   |(refine cD (kc) ?_)
   |(refine cF (kc) ?_)
   |(refine cP (km) ?_)
   |(refine cD (km) ?_)
   |(refine cF (km) ?_)
   |(refine cP (kt) ?_)
   |(refine cD (kt) ?_)
   |(refine cF (kt) ?_)
   | fail)
  exact z_vv
 ·rw [if_pos h1]
  rw [← s1] at h1 ⊢
  clear s1 s2
  generalize takeR D P m = X at *
  obtain ⟨q,⟨E,F⟩,a1,a2,a3,a4,a5⟩ := X
  dsimp only at h1 ⊢
  have d1 := dcF h1
  obtain ⟨mk,t,fr,sz,b⟩ := m
  dsimp only [rRM,aRc,aMg,fMg,List.map,rInt] at kc km kt
  dsimp only [aRc,aMg,fMg,List.map]
  replace h1 := hide h1
  clear hm h0
  repeat' (first
   | (simp -implicitDefEqProofs only [*,zr,Nat.reduceAdd,Nat.reduceSub,Nat.reduceMul,Nat.reduceLT,Nat.reduceLeDiff,Nat.reduceEqDiff,Nat.reduceBEq,reduceIte,reduceCtorEq,Int.reduceLE,Int.reduceLT,Int.reduceToNat,Int.reduceEq,Int.reduceNe])
   | ((first|apply zk0|apply zk1|apply zk2|apply zk3|apply zk4|apply zk5|apply zk6|apply zk7|apply zk8|apply zk9) <;> intro hc)
   |(refine callP0 rfl ?_)
   |(refine callD0 rfl ?_)
   |(refine cP (kc) ?_)
   |(refine cD (kc) ?_)
   |(refine cF (kc) ?_)
   |(refine cP (km) ?_)
   |(refine cD (km) ?_)
   |(refine cF (km) ?_)
   |(refine cP (kt) ?_)
   |(refine cD (kt) ?_)
   |(refine cF (kt) ?_)
   | fail)
  exact z_nn
theorem OffsetR_f (r : Rc) (t : ByteArray) (hr : RcS r) :
  FRet Tryd.prog 19 [aRc r,.f (.str t)] [.c (.v (.int .i64 (OffsetV r t).1)),.c (.v (.bool (OffsetV r t).2.1)),.c (.v (.int .i64 (OffsetV r t).2.2))] := by
 have kc := CheckReceiverR_f r hr.l hr.b
 have kI := isDigestR8_f t
 have kd := doneOf_f r t hr.l.1
 have kp := partOf_f r t hr.l.2
 obtain ⟨D,P⟩ := r
 clear hr
 unfold OffsetV
 refine FCall.of_ax low_ref8_Offset ?_
 dsimp only [l_ref8_Offset]
 refine srun_sound 300 _ _ _ _ ?_
 by_cases h0 : ckRc (D,P) = 0
 case neg =>
  rw [if_pos h0]
  have d1 := dcF h0
  generalize ckRc (D,P) = q at *
  dsimp only [aRc] at kc ⊢
  replace h0 := hide h0
  clear kd kp
  repeat' (first
   | (simp -implicitDefEqProofs only [*,zr,Nat.reduceAdd,Nat.reduceSub,Nat.reduceMul,Nat.reduceLT,Nat.reduceLeDiff,Nat.reduceEqDiff,Nat.reduceBEq,reduceIte,reduceCtorEq,Int.reduceLE,Int.reduceLT,Int.reduceToNat,Int.reduceEq,Int.reduceNe])
   | ((first|apply zk0|apply zk1|apply zk2|apply zk3|apply zk4|apply zk5|apply zk6|apply zk7|apply zk8|apply zk9) <;> intro hc)
   |(refine callP0 rfl ?_)
   |(refine callD0 rfl ?_)
   |(refine cP (kc) ?_)
   |(refine cD (kc) ?_)
   |(refine cF (kc) ?_)
   | fail)
  exact ret_vvv
 rw [if_neg (fun h => h h0)]
 rw [h0] at kc
 have hok := ckRc_iff.1 h0
 have ha := part_ix hok.p.rise t
 have hb := done_ix hok.d.rise t
 clear hok h0
 cases hi : isDig t with
 | false =>
  rw [hi] at kI
  dsimp only [aRc] at kc ⊢
  clear kd kp
  repeat' (first
   | (simp -implicitDefEqProofs only [*,zr,Nat.reduceAdd,Nat.reduceSub,Nat.reduceMul,Nat.reduceLT,Nat.reduceLeDiff,Nat.reduceEqDiff,Nat.reduceBEq,reduceIte,reduceCtorEq,Int.reduceLE,Int.reduceLT,Int.reduceToNat,Int.reduceEq,Int.reduceNe])
   | ((first|apply zk0|apply zk1|apply zk2|apply zk3|apply zk4|apply zk5|apply zk6|apply zk7|apply zk8|apply zk9) <;> intro hc)
   |(refine callP0 rfl ?_)
   |(refine callD0 rfl ?_)
   |(refine cP (kc) ?_)
   |(refine cD (kc) ?_)
   |(refine cF (kc) ?_)
   |(refine cP (kI) ?_)
   |(refine cD (kI) ?_)
   |(refine cF (kI) ?_)
   | fail)
  exact ret_vvv
 | true =>
  rw [hi] at kI
  rw [if_neg (by decide)]
  dsimp only at kd kp ⊢
  rcases hb with ⟨b1,b2,b3⟩ | ⟨i,o,b1,b2,b3,b4,b5⟩
  ·rw [b1]
   rw [b3] at kd
   have i1 : decide ((-1 : Int) ≥ 0) = false := rfl
   dsimp only
   rcases ha with ⟨e1,e2⟩ | ⟨i,p,e1,e2,e3,e4⟩
   ·rw [e1]
    rw [e2] at kp
    clear b1 b2 b3 e1 e2
    dsimp only [aRc] at kc kd kp ⊢
    repeat' (first
     | (simp -implicitDefEqProofs only [*,zr,Nat.reduceAdd,Nat.reduceSub,Nat.reduceMul,Nat.reduceLT,Nat.reduceLeDiff,Nat.reduceEqDiff,Nat.reduceBEq,reduceIte,reduceCtorEq,Int.reduceLE,Int.reduceLT,Int.reduceToNat,Int.reduceEq,Int.reduceNe])
     | ((first|apply zk0|apply zk1|apply zk2|apply zk3|apply zk4|apply zk5|apply zk6|apply zk7|apply zk8|apply zk9) <;> intro hc)
     |(refine callP0 rfl ?_)
     |(refine callD0 rfl ?_)
     |(refine cP (kc) ?_)
     |(refine cD (kc) ?_)
     |(refine cF (kc) ?_)
     |(refine cP (kI) ?_)
     |(refine cD (kI) ?_)
     |(refine cF (kI) ?_)
     |(refine cP (kd) ?_)
     |(refine cD (kd) ?_)
     |(refine cF (kd) ?_)
     |(refine cP (kp) ?_)
     |(refine cD (kp) ?_)
     |(refine cF (kp) ?_)
     | fail)
    exact ret_vvv
   ·rw [e1]
    rw [e2] at kp
    have i2 : decide ((i : Int) ≥ 0) = true := by simp
    have i3 : ((i : Int) < (P.length : Int)) := by exact Int.ofNat_lt.2 (List.getElem?_eq_some_iff.1 e3).1
    obtain ⟨pd,ps,pb⟩ := p
    clear b1 b2 b3 e1 e2 e4
    dsimp only [aRc,frPts] at kc kd kp ⊢
    repeat' (first
     | (simp -implicitDefEqProofs only [*,List.getElem?_map,Option.map_some,List.length_map,fPt,frB,zr,Nat.reduceAdd,Nat.reduceSub,Nat.reduceMul,Nat.reduceLT,Nat.reduceLeDiff,Nat.reduceEqDiff,Nat.reduceBEq,reduceIte,reduceCtorEq,Int.reduceLE,Int.reduceLT,Int.reduceToNat,Int.reduceEq,Int.reduceNe])
     | ((first|apply zk0|apply zk1|apply zk2|apply zk3|apply zk4|apply zk5|apply zk6|apply zk7|apply zk8|apply zk9) <;> intro hc)
     |(refine callP0 rfl ?_)
     |(refine callD0 rfl ?_)
     |(refine cP (kc) ?_)
     |(refine cD (kc) ?_)
     |(refine cF (kc) ?_)
     |(refine cP (kI) ?_)
     |(refine cD (kI) ?_)
     |(refine cF (kI) ?_)
     |(refine cP (kd) ?_)
     |(refine cD (kd) ?_)
     |(refine cF (kd) ?_)
     |(refine cP (kp) ?_)
     |(refine cD (kp) ?_)
     |(refine cF (kp) ?_)
     | fail)
    exact ret_vvv
  ·rw [b1]
   rw [b3] at kd
   have i2 : decide ((i : Int) ≥ 0) = true := by simp
   have i3 : ((i : Int) < (D.length : Int)) := by exact Int.ofNat_lt.2 (List.getElem?_eq_some_iff.1 b4).1
   obtain ⟨od,ob⟩ := o
   clear ha b1 b2 b3 b5 kp
   dsimp only [aRc,frObs] at kc kd ⊢
   repeat' (first
    | (simp -implicitDefEqProofs only [*,List.getElem?_map,Option.map_some,List.length_map,fOb,frB,zr,Nat.reduceAdd,Nat.reduceSub,Nat.reduceMul,Nat.reduceLT,Nat.reduceLeDiff,Nat.reduceEqDiff,Nat.reduceBEq,reduceIte,reduceCtorEq,Int.reduceLE,Int.reduceLT,Int.reduceToNat,Int.reduceEq,Int.reduceNe])
    | ((first|apply zk0|apply zk1|apply zk2|apply zk3|apply zk4|apply zk5|apply zk6|apply zk7|apply zk8|apply zk9) <;> intro hc)
    |(refine callP0 rfl ?_)
    |(refine callD0 rfl ?_)
    |(refine cP (kc) ?_)
    |(refine cD (kc) ?_)
    |(refine cF (kc) ?_)
    |(refine cP (kI) ?_)
    |(refine cD (kI) ?_)
    |(refine cF (kI) ?_)
    |(refine cP (kd) ?_)
    |(refine cD (kd) ?_)
    |(refine cF (kd) ?_)
    | fail)
   exact ret_vvv
end Go.Proofs.YtjacnfjlocajoaaDoor
