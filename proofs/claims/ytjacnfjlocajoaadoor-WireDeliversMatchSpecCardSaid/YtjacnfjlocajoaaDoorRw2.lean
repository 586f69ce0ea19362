/-
  The document's checks of contents and receivers are the program's. No statement of the seat is proved here; no conditions.
-/
import Derived.Test.YtjacnfjlocajoaaDoorRw1
import Derived.Test.YtjacnfjlocajoaaDoorRwP
import Derived.Test.YtjacnfjlocajoaaDoorRdg
namespace Go.Proofs.YtjacnfjlocajoaaDoor
open Go.RowKit Go.Shelf
set_option linter.unusedVariables false
set_option linter.unusedSimpArgs false
set_option maxRecDepth 100000

set_option maxHeartbeats 4000000 in
theorem CheckObjectsR_f (l : List Ob) (hl : (l.length : Int) ≤ 9223372036854775807) (hb : ∀ x ∈ l,(x.2.length : Int) ≤ 9223372036854775807) : FRet Tryd.prog 36 [.f (frObs l)] [.c (.v (.int .i64 (ckObs l)))] := by
 have hB := hide hb
 clear hb
 refine FCall.of_ax low_ref1_CheckObjects ?_
 dsimp only [l_ref1_CheckObjects,frObs]
 refine srun_sound 300 _ _ _ _ ?_
 repeat' (first
  | (simp -implicitDefEqProofs only [*,zr,Nat.reduceAdd,Nat.reduceSub,Nat.reduceMul,Nat.reduceLT,Nat.reduceLeDiff,Nat.reduceEqDiff,Nat.reduceBEq,reduceIte,reduceCtorEq,Int.reduceLE,Int.reduceLT,Int.reduceToNat,Int.reduceEq,Int.reduceNe])
  | ((first|apply zk0|apply zk1|apply zk2|apply zk3|apply zk4|apply zk5|apply zk6|apply zk7|apply zk8|apply zk9) <;> intro hc)
  |(refine callP0 rfl ?_)
  |(refine callD0 rfl ?_)
  | fail)
 ·rw [ckObs,if_pos (of_decide_eq_true hc)]
  exact ret_v
 rw [ckObs,if_neg (of_decide_eq_false hc)]
 clear hc
 refine ax_loopU (S := Nat) 48 [0] [] (fun s => [(3,.f (.int .i64 s))]) (fun s => []) (fun s => s ≤ l.length ∧ ∀ m,m < s → objErr l m = 0) (fun s => l.length - s) (0) [] ?_ ?_ fun s hs => ?_
 ·exact ⟨Nat.zero_le _,fe_0⟩
 ·refine wk_i ?_ ?_ <;> simp only [zw,Nat.reduceEqDiff,Nat.reduceBEq,Nat.reduceLT,Nat.reduceLeDiff,reduceIte,reduceCtorEq]
 obtain ⟨hi,hall⟩ := hs
 refine srun_sound 300 _ _ _ _ ?_
 rcases Nat.lt_or_ge s l.length with hlt | hge
 ·obtain ⟨x,hx⟩ := get_some hlt
  have h4 := inc64 hlt hl
  have hE := objErr_of hx
  have h2 := lt_t hlt
  have h6 := dec64' hlt hl
  obtain ⟨y,hy,hf⟩ := prev_of hx
  rw [hf] at hE
  clear hf
  have hD := DigestR_f x.2 (hB.out x (List.mem_of_getElem? hx))
  obtain ⟨xd,xb⟩ := x
  obtain ⟨yd,yb⟩ := y
  unfold leS at hE
  simp only at hE hD
  generalize digV xb = dv at hE hD
  replace hD := hide hD
  by_cases he : xd = dv
  ·subst he
   rw [if_pos rfl] at hE
   have dd : decide (xd = xd) = true := dcT rfl
   repeat' (first
    | (simp -implicitDefEqProofs only [*,List.getElem?_map,Option.map_some,fOb,zr,Nat.reduceAdd,Nat.reduceSub,Nat.reduceMul,Nat.reduceLT,Nat.reduceLeDiff,Nat.reduceEqDiff,Nat.reduceBEq,reduceIte,reduceCtorEq,Int.reduceLE,Int.reduceLT,Int.reduceToNat,Int.reduceEq,Int.reduceNe])
    | ((first|apply zk0|apply zk1|apply zk2|apply zk3|apply zk4|apply zk5|apply zk6|apply zk7|apply zk8|apply zk9) <;> intro hc)
    |(refine callP0 rfl ?_)
    |(refine callD0 rfl ?_)
    |(refine cP (hD.out) ?_)
    |(refine cD (hD.out) ?_)
    |(refine cF (hD.out) ?_)
    | fail)
   all_goals try simp only [List.length_map] at *
   all_goals try simp only [decide_eq_true_eq,decide_eq_false_iff_not] at *
   all_goals simp only [*,Int.reduceEq,Int.reduceNe,if_true,if_false,ne_eq,not_true_eq_false,not_false_eq_true,reduceIte,Bool.false_eq_true,Bool.true_and,Bool.and_true,Bool.false_and,Bool.and_false,Bool.not_true,Bool.not_false,Bool.true_or,Bool.or_true,Bool.false_or,Bool.or_false,decide_true,decide_false,reduceCtorEq] at hE
   all_goals first
    | exact ret_ve (by rw [fe_hit hall hlt (by rw [hE];decide),hE])
    | exact ret_ve (by rw [fe_hit hall hlt (by rw [hE];assumption),hE])
    |(refine ⟨s + 1,⟨hlt,fe_step hall hE⟩,by omega,?_⟩;refine wk_i ?_ ?_ <;> simp only [zw,Nat.reduceEqDiff,Nat.reduceBEq,Nat.reduceLT,Nat.reduceLeDiff,reduceIte,reduceCtorEq])
  ·rw [if_neg he] at hE
   have dd := dcF he
   repeat' (first
    | (simp -implicitDefEqProofs only [*,List.getElem?_map,Option.map_some,fOb,zr,Nat.reduceAdd,Nat.reduceSub,Nat.reduceMul,Nat.reduceLT,Nat.reduceLeDiff,Nat.reduceEqDiff,Nat.reduceBEq,reduceIte,reduceCtorEq,Int.reduceLE,Int.reduceLT,Int.reduceToNat,Int.reduceEq,Int.reduceNe])
    | ((first|apply zk0|apply zk1|apply zk2|apply zk3|apply zk4|apply zk5|apply zk6|apply zk7|apply zk8|apply zk9) <;> intro hc)
    |(refine callP0 rfl ?_)
    |(refine callD0 rfl ?_)
    |(refine cP (hD.out) ?_)
    |(refine cD (hD.out) ?_)
    |(refine cF (hD.out) ?_)
    | fail)
   exact ret_ve (by rw [fe_hit hall hlt (by rw [hE];decide),hE])
 ·obtain rfl : s = l.length := by omega
  rw [fe_none hall]
  simp -implicitDefEqProofs only [lt_f hge,zr,Nat.reduceAdd,Nat.reduceSub,Nat.reduceMul,Nat.reduceLT,Nat.reduceLeDiff,Nat.reduceEqDiff,Nat.reduceBEq,reduceIte,reduceCtorEq,Int.reduceLE,Int.reduceLT,Int.reduceToNat,Int.reduceEq,Int.reduceNe]
  exact ret_v
set_option maxHeartbeats 4000000 in
theorem CheckReceiverR_f (r : Rc) (hl : (r.1.length : Int) ≤ 9223372036854775807 ∧ (r.2.length : Int) ≤ 9223372036854775807) (hb : (∀ x ∈ r.1,(x.2.length : Int) ≤ 9223372036854775807) ∧ ∀ x ∈ r.2,(x.2.2.length : Int) ≤ 9223372036854775807) : FRet Tryd.prog 18 [aRc r] [.c (.v (.int .i64 (ckRc r)))] := by
 obtain ⟨D,P⟩ := r
 obtain ⟨hl1,hl2⟩ := hl
 obtain ⟨hb1,hb2⟩ := hb
 dsimp only at *
 have k1 := CheckObjectsR_f D hl1 hb1
 unfold ckRc
 dsimp only
 by_cases h0 : ckObs D = 0
 case neg =>
  rw [if_pos h0]
  have d0 : decide (ckObs D = 0) = false := dcF h0
  generalize ckObs D = q at *
  replace k1 := hide k1
  clear hl1 hb1 hl2 hb2 h0
  refine FCall.of_ax low_ref8_CheckReceiver ?_
  dsimp only [l_ref8_CheckReceiver,aRc]
  refine srun_sound 300 _ _ _ _ ?_
  repeat' (first
   | (simp -implicitDefEqProofs only [*,zr,Nat.reduceAdd,Nat.reduceSub,Nat.reduceMul,Nat.reduceLT,Nat.reduceLeDiff,Nat.reduceEqDiff,Nat.reduceBEq,reduceIte,reduceCtorEq,Int.reduceLE,Int.reduceLT,Int.reduceToNat,Int.reduceEq,Int.reduceNe])
   | ((first|apply zk0|apply zk1|apply zk2|apply zk3|apply zk4|apply zk5|apply zk6|apply zk7|apply zk8|apply zk9) <;> intro hc)
   |(refine callP0 rfl ?_)
   |(refine callD0 rfl ?_)
   |(refine cP (k1.out) ?_)
   |(refine cD (k1.out) ?_)
   |(refine cF (k1.out) ?_)
   | fail)
  exact ret_v
 rw [if_neg (fun h => h h0)]
 rw [h0] at k1
 have hrise : Rising kOb D := (ckObs_iff.1 h0).rise
 have hB := hide hb2
 have kD := fun t => doneOf_f (D,P) t hl1
 have kN := fun t => done_ix hrise t
 replace kD := hide kD
 replace kN := hide kN
 replace k1 := hide k1
 clear hl1 hb1 hb2 h0 hrise
 have dz : decide ((0 : Int) = 0) = true := rfl
 refine FCall.of_ax low_ref8_CheckReceiver ?_
 dsimp only [l_ref8_CheckReceiver,aRc]
 refine srun_sound 300 _ _ _ _ ?_
 repeat' (first
  | (simp -implicitDefEqProofs only [*,frPts,List.length_map,zr,Nat.reduceAdd,Nat.reduceSub,Nat.reduceMul,Nat.reduceLT,Nat.reduceLeDiff,Nat.reduceEqDiff,Nat.reduceBEq,reduceIte,reduceCtorEq,Int.reduceLE,Int.reduceLT,Int.reduceToNat,Int.reduceEq,Int.reduceNe])
  | ((first|apply zk0|apply zk1|apply zk2|apply zk3|apply zk4|apply zk5|apply zk6|apply zk7|apply zk8|apply zk9) <;> intro hc)
  |(refine callP0 rfl ?_)
  |(refine callD0 rfl ?_)
  |(refine cP (k1.out) ?_)
  |(refine cD (k1.out) ?_)
  |(refine cF (k1.out) ?_)
  | fail)
 ·rw [if_pos (of_decide_eq_true hc)]
  exact ret_v
 rw [if_neg (of_decide_eq_false hc)]
 clear hc
 refine ax_loopU (S := Nat) 63 [1,17,18] [1] (fun s => [(19,.f (.int .i64 s))]) (fun s => []) (fun s => s ≤ P.length ∧ ∀ m,m < s → partErr D P m = 0) (fun s => P.length - s) (0) [] ?_ ?_ fun s hs => ?_
 ·exact ⟨Nat.zero_le _,fe_0⟩
 ·refine wk_i ?_ ?_ <;> simp only [zw,Nat.reduceEqDiff,Nat.reduceBEq,Nat.reduceLT,Nat.reduceLeDiff,reduceIte,reduceCtorEq]
 obtain ⟨hi,hall⟩ := hs
 refine srun_sound 300 _ _ _ _ ?_
 rcases Nat.lt_or_ge s P.length with hlt | hge
 ·obtain ⟨x,hx⟩ := get_some hlt
  have h4 := inc64 hlt hl2
  have hE := partErr_of (D := D) hx
  have h2 := lt_t hlt
  have h6 := dec64' hlt hl2
  obtain ⟨y,hy,hf⟩ := prev_of hx
  rw [hf] at hE
  clear hf
  have hk := kD.out x.1
  have hn := kN.out x.1
  have hdg := isDigestR8_f x.1
  obtain ⟨xd,xs,xb⟩ := x
  obtain ⟨yd,ys,yb⟩ := y
  have kw := withinR_f xs 0 100000
  unfold leS at hE
  dsimp only [aRc,frPts] at hE hk hdg hn
  have hv : decide (ixV (fun o : Ob => decide (o.1 = xd)) D ≥ 0) = hasK kOb D xd := by
   rcases hn with ⟨_,e1,e2⟩ | ⟨i,o,_,e1,e2,_⟩
   ·rw [e1,e2];rfl
   ·rw [e1,e2];simp
  clear hn
  generalize ixV (fun o : Ob => decide (o.1 = xd)) D = iv at hk hv
  generalize hasK kOb D xd = hhv at hE hv
  generalize isDig xd = dg at hE hdg
  generalize inRg xs 0 100000 = rg at hE kw
  replace hk := hide hk
  replace hdg := hide hdg
  replace kw := hide kw
  repeat' (first
   | (simp -implicitDefEqProofs only [*,List.getElem?_map,Option.map_some,fPt,zr,Nat.reduceAdd,Nat.reduceSub,Nat.reduceMul,Nat.reduceLT,Nat.reduceLeDiff,Nat.reduceEqDiff,Nat.reduceBEq,reduceIte,reduceCtorEq,Int.reduceLE,Int.reduceLT,Int.reduceToNat,Int.reduceEq,Int.reduceNe])
   | ((first|apply zk0|apply zk1|apply zk2|apply zk3|apply zk4|apply zk5|apply zk6|apply zk7|apply zk8|apply zk9) <;> intro hc)
   |(refine callP0 rfl ?_)
   |(refine callD0 rfl ?_)
   |(refine cP (hdg.out) ?_)
   |(refine cD (hdg.out) ?_)
   |(refine cF (hdg.out) ?_)
   |(refine cP (kw.out) ?_)
   |(refine cD (kw.out) ?_)
   |(refine cF (kw.out) ?_)
   |(refine cP (hk.out) ?_)
   |(refine cD (hk.out) ?_)
   |(refine cF (hk.out) ?_)
   | fail)
  all_goals try simp only [List.length_map] at *
  all_goals try simp only [decide_eq_true_eq,decide_eq_false_iff_not] at *
  all_goals simp only [*,Int.reduceEq,Int.reduceNe,if_true,if_false,ne_eq,not_true_eq_false,not_false_eq_true,reduceIte,Bool.false_eq_true,Bool.true_and,Bool.and_true,Bool.false_and,Bool.and_false,Bool.not_true,Bool.not_false,Bool.true_or,Bool.or_true,Bool.false_or,Bool.or_false,decide_true,decide_false,reduceCtorEq] at hE
  all_goals first
   | exact ret_ve (by rw [fe_hit hall hlt (by rw [hE];decide),hE])
   | exact ret_ve (by rw [fe_hit hall hlt (by rw [hE];assumption),hE])
   |(refine ⟨s + 1,⟨hlt,fe_step hall hE⟩,by omega,?_⟩;refine wk_i ?_ ?_ <;> simp only [zw,Nat.reduceEqDiff,Nat.reduceBEq,Nat.reduceLT,Nat.reduceLeDiff,reduceIte,reduceCtorEq])
 ·obtain rfl : s = P.length := by omega
  rw [fe_none hall]
  simp -implicitDefEqProofs only [lt_f hge,zr,Nat.reduceAdd,Nat.reduceSub,Nat.reduceMul,Nat.reduceLT,Nat.reduceLeDiff,Nat.reduceEqDiff,Nat.reduceBEq,reduceIte,reduceCtorEq,Int.reduceLE,Int.reduceLT,Int.reduceToNat,Int.reduceEq,Int.reduceNe]
  exact ret_v
end Go.Proofs.YtjacnfjlocajoaaDoor
