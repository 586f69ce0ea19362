/-
  The document's receivers without a part, with a part, with what is whole. No statement of the seat is proved here; no conditions.
-/
import Derived.Test.YtjacnfjlocajoaaDoorRw2
import Derived.Test.YtjacnfjlocajoaaDoorCnY
import Derived.Test.YtjacnfjlocajoaaDoorFrz3
namespace Go.Proofs.YtjacnfjlocajoaaDoor
open Go.RowKit Go.Shelf
set_option linter.unusedVariables false
set_option linter.unusedSimpArgs false
set_option maxRecDepth 100000

theorem rets_wo {H : Heap} {fD : FV} {Q : List Pt} {i v : Nat} (h : cellsOf v (H i) = some ((rowF fPt Q).map .f)) : Rets [.agg [.v fD,.own 3 Q.length (rowF fPt Q)]] (.agg [.f fD,.sl i v 3 0 Q.length]) H :=
 ⟨[.agg [.f fD,.sl i v 3 0 Q.length]],rfl,⟨⟨rfl,.inr ⟨_,_,rfl,h,lenP rfl⟩,rfl⟩,rfl⟩,by simp [idsC,idsS]⟩
set_option maxHeartbeats 4000000 in
theorem without_f (D : List Ob) (P : List Pt) (t : ByteArray) (hl : P.length ≤ 1000) : FRet Tryd.prog 77 [aRc (D,P),.f (.str t)] [.agg [.v (frObs D),.own 3 (delF P t).length (rowF fPt (delF P t))]] := by
 refine FCall.of_ax low_ref8_without ?_
 dsimp only [l_ref8_without,aRc,frPts]
 refine srun_sound 300 _ _ _ _ ?_
 generalize frObs D = fD
 repeat' (first
  | (simp -implicitDefEqProofs only [*,List.length_map,zr,Nat.reduceAdd,Nat.reduceSub,Nat.reduceMul,Nat.reduceLT,Nat.reduceLeDiff,Nat.reduceEqDiff,Nat.reduceBEq,reduceIte,reduceCtorEq,Int.reduceLE,Int.reduceLT,Int.reduceToNat,Int.reduceEq,Int.reduceNe])
  | ((first|apply zk0|apply zk1|apply zk2|apply zk3|apply zk4|apply zk5|apply zk6|apply zk7|apply zk8|apply zk9) <;> intro hc)
  |(refine callP0 rfl ?_)
  |(refine callD0 rfl ?_)
  | fail)
 refine ax_loopU (S := Nat) 27 [1,2,4,9,10] [2,4] (fun s => [(5,.sl 22 1 3 0 (delF (P.take s) t).length),(11,.f (.int .i64 s))]) (fun s => [(22,1,AObj.cells ((rowF fPt (delF (P.take s) t)).map AV.f))]) (fun s => s ≤ P.length) (fun s => P.length - s) (0) [22] ?_ ?_ fun s hs => ?_
 ·exact Nat.zero_le _
 ·refine wk_i ?_ ?_ <;> simp only [List.take_zero,show delF [] t = [] from rfl,row_nil,List.map_nil,zw,Nat.reduceEqDiff,Nat.reduceBEq,Nat.reduceLT,Nat.reduceLeDiff,reduceIte,reduceCtorEq]
 refine srun_sound 300 _ _ _ _ ?_
 rcases Nat.lt_or_ge s P.length with hlt | hge
 ·obtain ⟨x,hx⟩ := get_some hlt
  have h4 := inc64 hlt (by omega)
  have h2 := lt_t hlt
  have hs2 := delF_snoc hx t
  have hle : (delF (P.take s) t).length ≤ s := Nat.le_trans (List.length_filter_le _ _) (by rw [List.length_take];omega)
  have h8 : (((delF (P.take s) t).length + 1) * 48 ≤ 140737488355328) = True := by rw [eq_iff_iff,iff_true];omega
  have hrl : (rowF fPt (delF (P.take s) t)).length = (delF (P.take s) t).length * 3 := row_len (fun _ => rfl)
  have hrs : rowF fPt (delF (P.take s) t ++ [x]) = rowF fPt (delF (P.take s) t) ++ fPt x := row_snoc
  clear hle
  generalize delF (P.take s) t = m at *
  obtain ⟨xd,xs,xb⟩ := x
  dsimp only at hs2
  replace hs2 := hide hs2
  generalize hRm : rowF fPt m = R at *
  replace hrs := hide hrs
  cases hh : decide (xd = t)
  ·repeat' (first
    | (simp -implicitDefEqProofs only [*,List.getElem?_map,Option.map_some,fPt,zr,Nat.reduceAdd,Nat.reduceSub,Nat.reduceMul,Nat.reduceLT,Nat.reduceLeDiff,Nat.reduceEqDiff,Nat.reduceBEq,reduceIte,reduceCtorEq,Int.reduceLE,Int.reduceLT,Int.reduceToNat,Int.reduceEq,Int.reduceNe])
    | ((first|apply zk0|apply zk1|apply zk2|apply zk3|apply zk4|apply zk5|apply zk6|apply zk7|apply zk8|apply zk9) <;> intro hc)
    |(refine callP0 rfl ?_)
    |(refine callD0 rfl ?_)
    | fail)
   have e := hs2.out
   rw [if_neg (of_decide_eq_false hh)] at e
   refine ⟨s + 1,hlt,by omega,?_⟩
   rw [e,hrs.out]
   refine wk_i ?_ ?_ <;> simp only [List.length_append,zw,Nat.reduceEqDiff,Nat.reduceBEq,Nat.reduceLT,Nat.reduceLeDiff,reduceIte,reduceCtorEq]
   all_goals first | exact SlotsOk.of_eq (by simp [fPt]) | rfl | omega
  ·repeat' (first
    | (simp -implicitDefEqProofs only [*,List.getElem?_map,Option.map_some,fPt,zr,Nat.reduceAdd,Nat.reduceSub,Nat.reduceMul,Nat.reduceLT,Nat.reduceLeDiff,Nat.reduceEqDiff,Nat.reduceBEq,reduceIte,reduceCtorEq,Int.reduceLE,Int.reduceLT,Int.reduceToNat,Int.reduceEq,Int.reduceNe])
    | ((first|apply zk0|apply zk1|apply zk2|apply zk3|apply zk4|apply zk5|apply zk6|apply zk7|apply zk8|apply zk9) <;> intro hc)
    |(refine callP0 rfl ?_)
    |(refine callD0 rfl ?_)
    | fail)
   have e := hs2.out
   rw [if_pos (of_decide_eq_true hh)] at e
   refine ⟨s + 1,hlt,by omega,?_⟩
   rw [e,hRm]
   refine wk_i ?_ ?_ <;> simp only [zw,Nat.reduceEqDiff,Nat.reduceBEq,Nat.reduceLT,Nat.reduceLeDiff,reduceIte,reduceCtorEq]
 ·obtain rfl : s = P.length := by omega
  have h2 := lt_f hge
  rw [List.take_length]
  repeat' (first
   | (simp -implicitDefEqProofs only [*,zr,Nat.reduceAdd,Nat.reduceSub,Nat.reduceMul,Nat.reduceLT,Nat.reduceLeDiff,Nat.reduceEqDiff,Nat.reduceBEq,reduceIte,reduceCtorEq,Int.reduceLE,Int.reduceLT,Int.reduceToNat,Int.reduceEq,Int.reduceNe])
   | ((first|apply zk0|apply zk1|apply zk2|apply zk3|apply zk4|apply zk5|apply zk6|apply zk7|apply zk8|apply zk9) <;> intro hc)
   |(refine callP0 rfl ?_)
   |(refine callD0 rfl ?_)
   | fail)
  exact rets_wo rfl
theorem wo_fz {D : List Ob} {Q : List Pt} : RsFz [.agg [.v (frObs D),.own 3 Q.length (rowF fPt Q)]] [.agg [.v (frObs D),.v (frPts Q)]] := ⟨⟨rfl,rcF_row0 (enc := fPt) (fun _ => rfl),trivial⟩,trivial⟩
theorem without_z (D : List Ob) (P : List Pt) (t : ByteArray) (hl : P.length ≤ 1000) : FRet Tryd.prog 77 [aRc (D,P),.f (.str t)] [.agg [.v (frObs D),.v (frPts (delF P t))]] := (without_f D P t hl).frz2 wo_fz
theorem rise_stop {α : Type} {key : α → ByteArray} {l : List α} (h : Rising key l) {s : Nat} {y : α} {t : ByteArray} (hy : l[s]? = some y) (hf : strLt (key y) t = false) : ∀ m x,s ≤ m → l[m]? = some x → strLt (key x) t = false := fun m x hm hx => by
 rcases Nat.eq_or_lt_of_le hm with rfl | hlt
 ·rw [hy] at hx;obtain rfl := Option.some.inj hx;exact hf
 ·cases hh : strLt (key x) t with
  | false => rfl
  | true => have := strLt_trans (h s m y x hlt hy hx) hh;rw [hf] at this;cases this
set_option maxHeartbeats 4000000 in
theorem withPart_f (D : List Ob) (P : List Pt) (x : Pt) (hP : P.length ≤ 1000) (hr : Rising kPt P) : FRet Tryd.prog 79 [aRc (D,P),.agg ((fPt x).map .f)] [.agg [.v (frObs D),.own 3 (putR P x).length (rowF fPt (putR P x))]] := by
 have kw := without_f D P x.1 hP
 have hrq := delF_rise (t := x.1) hr
 have hql : (delF P x.1).length ≤ P.length := List.length_filter_le _ _
 have hlen := insP_len hrq (x := x)
 unfold putR
 generalize delF P x.1 = Q at *
 have hI := insertP_f Q (ptIdx Q x.1) x (bsIdx_le hrq x.1) (by omega)
 rw [show Q.take (ptIdx Q x.1) ++ x :: Q.drop (ptIdx Q x.1) = insP Q x from rfl,← hlen] at hI
 have hix := fun i => idx_of (key := kPt) hrq (t := x.1) (i := i)
 have hIX := hide hix
 clear hix
 change Hide (∀ i : Nat,i ≤ Q.length → (∀ m y,m < i → Q[m]? = some y → strLt (kPt y) x.1 = true) → (∀ m y,i ≤ m → Q[m]? = some y → strLt (kPt y) x.1 = false) → ptIdx Q x.1 = i) at hIX
 have hst := fun (s : Nat) (y : Pt) (hy : Q[s]? = some y) => rise_stop hrq (t := x.1) hy
 replace hst := hide hst
 generalize insP Q x = J at *
 generalize ptIdx Q x.1 = ix at *
 replace hrq := hide hrq
 replace hlen := hide hlen
 replace hI := hide hI
 obtain ⟨xd,xs,xb⟩ := x
 generalize hfD : frObs D = fD
 refine FCall.of_ax low_ref8_withPart ?_
 dsimp only [l_ref8_withPart,aRc,fPt,List.map] at kw hIX hst ⊢
 rw [hfD] at kw ⊢
 refine srun_sound 300 _ _ _ _ ?_
 repeat' (first
  | (simp -implicitDefEqProofs only [*,zr,Nat.reduceAdd,Nat.reduceSub,Nat.reduceMul,Nat.reduceLT,Nat.reduceLeDiff,Nat.reduceEqDiff,Nat.reduceBEq,reduceIte,reduceCtorEq,Int.reduceLE,Int.reduceLT,Int.reduceToNat,Int.reduceEq,Int.reduceNe])
  | ((first|apply zk0|apply zk1|apply zk2|apply zk3|apply zk4|apply zk5|apply zk6|apply zk7|apply zk8|apply zk9) <;> intro hc)
  |(refine callP0 rfl ?_)
  |(refine callD0 rfl ?_)
  |(refine cP (kw) ?_)
  |(refine cD (kw) ?_)
  |(refine cF (kw) ?_)
  |(refine cO (kw) ?_)
  | fail)
 refine ax_loopU (S := Nat) 36 [2,3,4] [2,3,4,9] (fun s => [(5,.f (.int .i64 s))]) (fun s => []) (fun s => s ≤ Q.length ∧ ∀ m y,m < s → Q[m]? = some y → strLt (kPt y) xd = true) (fun s => Q.length - s) (0) [] ?_ ?_ fun s hs => ?_
 ·exact ⟨Nat.zero_le _,fun m y h => absurd h (by omega)⟩
 ·refine wk_i ?_ ?_ <;> simp only [zw,Nat.reduceEqDiff,Nat.reduceBEq,Nat.reduceLT,Nat.reduceLeDiff,reduceIte,reduceCtorEq]
 obtain ⟨hi,hall⟩ := hs
 refine srun_sound 300 _ _ _ _ ?_
 have hA := hide hall
 clear hall
 rcases Nat.lt_or_ge s Q.length with hlt | hge
 ·obtain ⟨y,hy⟩ := get_some hlt
  have h4 := inc64 hlt (by omega)
  have h2 := lt_t hlt
  have h2i : decide ((s : Int) < (Q.length : Int)) = true := dcT (by omega)
  have hcell := row_cell (enc := fPt) (sz := 3) (j := 0) (fun _ => rfl) hy (show _ = some (FV.str y.1) from rfl)
  have hin := row_in (enc := fPt) (sz := 3) (l := Q) (fun _ => rfl) hlt
  obtain ⟨yd,ys,yb⟩ := y
  dsimp only at hcell
  rw [Nat.add_zero] at hcell
  cases hlx : strLt yd xd
  ·have he : ix = s := hIX.out s hi hA.out (hst.out s _ hy hlx)
   subst he
   replace hy := hide hy
   repeat' (first
    | (simp -implicitDefEqProofs only [*,zr,Nat.reduceAdd,Nat.reduceSub,Nat.reduceMul,Nat.reduceLT,Nat.reduceLeDiff,Nat.reduceEqDiff,Nat.reduceBEq,reduceIte,reduceCtorEq,Int.reduceLE,Int.reduceLT,Int.reduceToNat,Int.reduceEq,Int.reduceNe])
    | ((first|apply zk0|apply zk1|apply zk2|apply zk3|apply zk4|apply zk5|apply zk6|apply zk7|apply zk8|apply zk9) <;> intro hc)
    |(refine callP0 rfl ?_)
    |(refine callD0 rfl ?_)
    | fail)
   refine gM hI.out [.sl 9 1 3 0 Q.length,.f (.int .i64 ix),.sl 32 1 3 0 1] [] ?_
   repeat' (first
    | (simp -implicitDefEqProofs only [*,zr,Nat.reduceAdd,Nat.reduceSub,Nat.reduceMul,Nat.reduceLT,Nat.reduceLeDiff,Nat.reduceEqDiff,Nat.reduceBEq,reduceIte,reduceCtorEq,Int.reduceLE,Int.reduceLT,Int.reduceToNat,Int.reduceEq,Int.reduceNe])
    | ((first|apply zk0|apply zk1|apply zk2|apply zk3|apply zk4|apply zk5|apply zk6|apply zk7|apply zk8|apply zk9) <;> intro hc)
    |(refine callP0 rfl ?_)
    |(refine callD0 rfl ?_)
    | fail)
   exact rets_wo rfl
  ·have hA2 : ∀ m z,m < s + 1 → Q[m]? = some z → strLt (kPt z) xd = true := fun m z hm hz => by
    rcases Nat.lt_succ_iff_lt_or_eq.1 hm with h1 | rfl
    ·exact hA.out m z h1 hz
    ·rw [hy] at hz;obtain rfl := Option.some.inj hz;exact hlx
   replace hy := hide hy
   replace hA2 := hide hA2
   repeat' (first
    | (simp -implicitDefEqProofs only [*,zr,Nat.reduceAdd,Nat.reduceSub,Nat.reduceMul,Nat.reduceLT,Nat.reduceLeDiff,Nat.reduceEqDiff,Nat.reduceBEq,reduceIte,reduceCtorEq,Int.reduceLE,Int.reduceLT,Int.reduceToNat,Int.reduceEq,Int.reduceNe])
    | ((first|apply zk0|apply zk1|apply zk2|apply zk3|apply zk4|apply zk5|apply zk6|apply zk7|apply zk8|apply zk9) <;> intro hc)
    |(refine callP0 rfl ?_)
    |(refine callD0 rfl ?_)
    | fail)
   refine ⟨s + 1,⟨hlt,hA2.out⟩,by omega,?_⟩
   refine wk_i ?_ ?_ <;> simp only [zw,Nat.reduceEqDiff,Nat.reduceBEq,Nat.reduceLT,Nat.reduceLeDiff,reduceIte,reduceCtorEq]
 ·obtain rfl : s = Q.length := by omega
  have h2 := lt_f hge
  have h2i : decide ((Q.length : Int) < (Q.length : Int)) = false := dcF (by omega)
  have he : ix = Q.length := hIX.out _ (Nat.le_refl _) hA.out (fun m x hm hx => by have := (List.getElem?_eq_some_iff.1 hx).1;omega)
  subst he
  repeat' (first
   | (simp -implicitDefEqProofs only [*,zr,Nat.reduceAdd,Nat.reduceSub,Nat.reduceMul,Nat.reduceLT,Nat.reduceLeDiff,Nat.reduceEqDiff,Nat.reduceBEq,reduceIte,reduceCtorEq,Int.reduceLE,Int.reduceLT,Int.reduceToNat,Int.reduceEq,Int.reduceNe])
   | ((first|apply zk0|apply zk1|apply zk2|apply zk3|apply zk4|apply zk5|apply zk6|apply zk7|apply zk8|apply zk9) <;> intro hc)
   |(refine callP0 rfl ?_)
   |(refine callD0 rfl ?_)
   | fail)
  refine gM hI.out [.sl 9 1 3 0 Q.length,.f (.int .i64 Q.length),.sl 32 1 3 0 1] [] ?_
  repeat' (first
   | (simp -implicitDefEqProofs only [*,zr,Nat.reduceAdd,Nat.reduceSub,Nat.reduceMul,Nat.reduceLT,Nat.reduceLeDiff,Nat.reduceEqDiff,Nat.reduceBEq,reduceIte,reduceCtorEq,Int.reduceLE,Int.reduceLT,Int.reduceToNat,Int.reduceEq,Int.reduceNe])
   | ((first|apply zk0|apply zk1|apply zk2|apply zk3|apply zk4|apply zk5|apply zk6|apply zk7|apply zk8|apply zk9) <;> intro hc)
   |(refine callP0 rfl ?_)
   |(refine callD0 rfl ?_)
   | fail)
  exact rets_wo rfl
theorem withPart_z (D : List Ob) (P : List Pt) (x : Pt) (hP : P.length ≤ 1000) (hr : Rising kPt P) : FRet Tryd.prog 79 [aRc (D,P),.agg ((fPt x).map .f)] [.agg [.v (frObs D),.v (frPts (putR P x))]] := (withPart_f D P x hP hr).frz2 wo_fz
def rRM (V : TR) : List RS := [.agg [.v (frObs V.2.1.1),.v (frPts V.2.1.2)],.agg ((fMg V.2.2).map .v),rInt V.1]
theorem z_ff {H : Heap} {D : List Ob} {P : List Pt} {mk fr sz q : Int} {t : ByteArray} : RetsZ (rRM (q,(D,P),(mk,t,fr,sz,[]))) (.tup [.agg [.f (frObs D),.f (frPts P)],.agg [.f (.int .i64 mk),.f (.str t),.f (.int .i64 fr),.f (.int .i64 sz),.f .nil],.f (.int .i64 q)]) H :=
 ⟨[.agg [.v (frObs D),.v (frPts P)],.agg [.v (.int .i64 mk),.v (.str t),.v (.int .i64 fr),.v (.int .i64 sz),.own 1 0 []],rInt q],⟨[.agg [.f (frObs D),.f (frPts P)],.agg [.f (.int .i64 mk),.f (.str t),.f (.int .i64 fr),.f (.int .i64 sz),.f .nil],.f (.int .i64 q)],rfl,⟨⟨rfl,rfl,rfl⟩,⟨rfl,rfl,rfl,rfl,.inl ⟨rfl,rfl,rfl⟩,rfl⟩,rfl,rfl⟩,List.nodup_nil⟩,⟨rfl,rfl,trivial⟩,⟨rfl,rfl,rfl,rfl,rcF_row0 (enc := encU) (l := []) (fun _ => rfl),trivial⟩,rfl,trivial⟩
theorem z_vv {H : Heap} {D : List Ob} {P : List Pt} {mk fr sz q : Int} {t : ByteArray} {b : List UInt8} : RetsZ (rRM (q,(D,P),(mk,t,fr,sz,b))) (.tup [.agg [.f (frObs D),.f (frPts P)],.agg [.f (.int .i64 mk),.f (.str t),.f (.int .i64 fr),.f (.int .i64 sz),.f (frB b)],.f (.int .i64 q)]) H :=
 ⟨rRM (q,(D,P),(mk,t,fr,sz,b)),⟨[.agg [.f (frObs D),.f (frPts P)],.agg [.f (.int .i64 mk),.f (.str t),.f (.int .i64 fr),.f (.int .i64 sz),.f (frB b)],.f (.int .i64 q)],rfl,⟨⟨rfl,rfl,rfl⟩,⟨rfl,rfl,rfl,rfl,rfl,rfl⟩,rfl,rfl⟩,List.nodup_nil⟩,⟨rfl,rfl,trivial⟩,⟨rfl,rfl,rfl,rfl,rfl,trivial⟩,rfl,trivial⟩
theorem z_of {H : Heap} {D : List Ob} {P : List Pt} {mk fr sz q : Int} {t : ByteArray} {i v : Nat} (h : cellsOf v (H i) = some ((rowF fOb D).map .f)) : RetsZ (rRM (q,(D,P),(mk,t,fr,sz,[]))) (.tup [.agg [.sl i v 2 0 D.length,.f (frPts P)],.agg [.f (.int .i64 mk),.f (.str t),.f (.int .i64 fr),.f (.int .i64 sz),.f .nil],.f (.int .i64 q)]) H :=
 ⟨[.agg [.own 2 D.length (rowF fOb D),.v (frPts P)],.agg [.v (.int .i64 mk),.v (.str t),.v (.int .i64 fr),.v (.int .i64 sz),.own 1 0 []],rInt q],⟨[.agg [.sl i v 2 0 D.length,.f (frPts P)],.agg [.f (.int .i64 mk),.f (.str t),.f (.int .i64 fr),.f (.int .i64 sz),.f .nil],.f (.int .i64 q)],rfl,⟨⟨.inr ⟨_,_,rfl,h,lenO rfl⟩,rfl,rfl⟩,⟨rfl,rfl,rfl,rfl,.inl ⟨rfl,rfl,rfl⟩,rfl⟩,rfl,rfl⟩,by simp [idsC,idsS]⟩,⟨rcF_row0 (enc := fOb) (fun _ => rfl),rfl,trivial⟩,⟨rfl,rfl,rfl,rfl,rcF_row0 (enc := encU) (l := []) (fun _ => rfl),trivial⟩,rfl,trivial⟩
set_option maxHeartbeats 4000000 in
theorem whole_z (D : List Ob) (P : List Pt) (t : ByteArray) (b : List UInt8) (hD : D.length ≤ 4000) (hr : Rising kOb D) (hP : P.length ≤ 1000) (hb : b.length ≤ 1000000) : FRet Tryd.prog 78 [aRc (D,P),.f (.str t),.f (frB b)] (rRM (wholeR D P t b)) := by
 have kw := without_z D P t hP
 have kd := DigestR_f b (by omega)
 have kcl := cloneO_f D (by omega)
 have kcy := cloneY_z b (by omega)
 have hlen := insO_len hr (x := (t,b))
 have hI := insertO_f D (obIdx D t) (t,b) (bsIdx_le hr t) (by omega)
 rw [show D.take (obIdx D t) ++ (t,b) :: D.drop (obIdx D t) = insO D (t,b) from rfl,← hlen] at hI
 have hix := fun i => idx_of (key := kOb) hr (t := t) (i := i)
 have hIX := hide hix
 clear hix
 change Hide (∀ i : Nat,i ≤ D.length → (∀ m y,m < i → D[m]? = some y → strLt (kOb y) t = true) → (∀ m y,i ≤ m → D[m]? = some y → strLt (kOb y) t = false) → obIdx D t = i) at hIX
 have hst := fun (s : Nat) (y : Ob) (hy : D[s]? = some y) => rise_stop hr (t := t) hy
 replace hst := hide hst
 unfold wholeR
 generalize insO D (t,b) = J at *
 generalize obIdx D t = ix at *
 generalize delF P t = Q at *
 generalize digV b = dv at *
 replace hr := hide hr
 replace hlen := hide hlen
 replace hI := hide hI
 refine FCall.frz (FCall.of_ax low_ref8_whole ?_)
 dsimp only [l_ref8_whole,aRc] at kw ⊢
 generalize hfP : frPts P = fP at *
 generalize hfQ : frPts Q = fQ at *
 refine srun_sound 300 _ _ _ _ ?_
 by_cases hd : dv = t
 case neg =>
  rw [if_neg hd]
  have d1 := dcF hd
  replace hd := hide hd
  repeat' (first
   | (simp -implicitDefEqProofs only [*,zr,Nat.reduceAdd,Nat.reduceSub,Nat.reduceMul,Nat.reduceLT,Nat.reduceLeDiff,Nat.reduceEqDiff,Nat.reduceBEq,reduceIte,reduceCtorEq,Int.reduceLE,Int.reduceLT,Int.reduceToNat,Int.reduceEq,Int.reduceNe])
   | ((first|apply zk0|apply zk1|apply zk2|apply zk3|apply zk4|apply zk5|apply zk6|apply zk7|apply zk8|apply zk9) <;> intro hc)
   |(refine callP0 rfl ?_)
   |(refine callD0 rfl ?_)
   |(refine cP (kw) ?_)
   |(refine cD (kw) ?_)
   |(refine cF (kw) ?_)
   |(refine cO (kw) ?_)
   |(refine cP (kd) ?_)
   |(refine cD (kd) ?_)
   |(refine cF (kd) ?_)
   |(refine cO (kd) ?_)
   | fail)
  rw [← hfQ]
  exact z_ff
 rw [if_pos hd]
 have d1 := dcT hd
 replace hd := hide hd
 by_cases h4 : 4000 ≤ D.length
 ·rw [if_pos h4]
  have d4 : decide ((D.length : Int) ≥ 4000) = true := dcT (by omega)
  have d4' : decide (4000 ≤ (D.length : Int)) = true := dcT (by omega)
  repeat' (first
   | (simp -implicitDefEqProofs only [*,frObs,List.length_map,zr,Nat.reduceAdd,Nat.reduceSub,Nat.reduceMul,Nat.reduceLT,Nat.reduceLeDiff,Nat.reduceEqDiff,Nat.reduceBEq,reduceIte,reduceCtorEq,Int.reduceLE,Int.reduceLT,Int.reduceToNat,Int.reduceEq,Int.reduceNe])
   | ((first|apply zk0|apply zk1|apply zk2|apply zk3|apply zk4|apply zk5|apply zk6|apply zk7|apply zk8|apply zk9) <;> intro hc)
   |(refine callP0 rfl ?_)
   |(refine callD0 rfl ?_)
   |(refine cP (kw) ?_)
   |(refine cD (kw) ?_)
   |(refine cF (kw) ?_)
   |(refine cO (kw) ?_)
   |(refine cP (kd) ?_)
   |(refine cD (kd) ?_)
   |(refine cF (kd) ?_)
   |(refine cO (kd) ?_)
   | fail)
  rw [← hfP]
  exact z_ff (D := D)
 rw [if_neg h4]
 have d4 : decide ((D.length : Int) ≥ 4000) = false := dcF (by omega)
 have d4' : decide (4000 ≤ (D.length : Int)) = false := dcF (by omega)
 dsimp only [frObs] at kw ⊢
 repeat' (first
  | (simp -implicitDefEqProofs only [*,List.length_map,zr,Nat.reduceAdd,Nat.reduceSub,Nat.reduceMul,Nat.reduceLT,Nat.reduceLeDiff,Nat.reduceEqDiff,Nat.reduceBEq,reduceIte,reduceCtorEq,Int.reduceLE,Int.reduceLT,Int.reduceToNat,Int.reduceEq,Int.reduceNe])
  | ((first|apply zk0|apply zk1|apply zk2|apply zk3|apply zk4|apply zk5|apply zk6|apply zk7|apply zk8|apply zk9) <;> intro hc)
  |(refine callP0 rfl ?_)
  |(refine callD0 rfl ?_)
  |(refine cP (kw) ?_)
  |(refine cD (kw) ?_)
  |(refine cF (kw) ?_)
  |(refine cO (kw) ?_)
  |(refine cP (kd) ?_)
  |(refine cD (kd) ?_)
  |(refine cF (kd) ?_)
  |(refine cO (kd) ?_)
  | fail)
 clear d4 d4' d1
 refine ax_loopU (S := Nat) 58 [1,2,6,7,9] [3,6,7,9] (fun s => [(10,.f (.int .i64 s))]) (fun s => []) (fun s => s ≤ D.length ∧ ∀ m y,m < s → D[m]? = some y → strLt (kOb y) t = true) (fun s => D.length - s) (0) [] ?_ ?_ fun s hs => ?_
 ·exact ⟨Nat.zero_le _,fun m y h => absurd h (by omega)⟩
 ·refine wk_i ?_ ?_ <;> simp only [zw,Nat.reduceEqDiff,Nat.reduceBEq,Nat.reduceLT,Nat.reduceLeDiff,reduceIte,reduceCtorEq]
 obtain ⟨hi,hall⟩ := hs
 refine srun_sound 300 _ _ _ _ ?_
 have hA := hide hall
 clear hall
 rcases Nat.lt_or_ge s D.length with hlt | hge
 ·obtain ⟨y,hy⟩ := get_some hlt
  have h4 := inc64 hlt (by omega)
  have h2 := lt_t hlt
  have h2i : decide ((s : Int) < (D.length : Int)) = true := dcT (by omega)
  obtain ⟨yd,yb⟩ := y
  cases hlx : strLt yd t
  ·have he : ix = s := hIX.out s hi hA.out (hst.out s _ hy hlx)
   subst he
   repeat' (first
    | (simp -implicitDefEqProofs only [*,List.getElem?_map,Option.map_some,List.length_map,fOb,zr,Nat.reduceAdd,Nat.reduceSub,Nat.reduceMul,Nat.reduceLT,Nat.reduceLeDiff,Nat.reduceEqDiff,Nat.reduceBEq,reduceIte,reduceCtorEq,Int.reduceLE,Int.reduceLT,Int.reduceToNat,Int.reduceEq,Int.reduceNe])
    | ((first|apply zk0|apply zk1|apply zk2|apply zk3|apply zk4|apply zk5|apply zk6|apply zk7|apply zk8|apply zk9) <;> intro hc)
    |(refine callP0 rfl ?_)
    |(refine callD0 rfl ?_)
    |(refine cP (kcl) ?_)
    |(refine cD (kcl) ?_)
    |(refine cF (kcl) ?_)
    |(refine cO (kcl) ?_)
    |(refine cP (kcy) ?_)
    |(refine cD (kcy) ?_)
    |(refine cF (kcy) ?_)
    |(refine cO (kcy) ?_)
    | fail)
   refine gM hI.out [.sl 46 1 2 0 D.length,.f (.int .i64 ix),.sl 52 1 2 0 1] [] ?_
   repeat' (first
    | (simp -implicitDefEqProofs only [*,zr,Nat.reduceAdd,Nat.reduceSub,Nat.reduceMul,Nat.reduceLT,Nat.reduceLeDiff,Nat.reduceEqDiff,Nat.reduceBEq,reduceIte,reduceCtorEq,Int.reduceLE,Int.reduceLT,Int.reduceToNat,Int.reduceEq,Int.reduceNe])
    | ((first|apply zk0|apply zk1|apply zk2|apply zk3|apply zk4|apply zk5|apply zk6|apply zk7|apply zk8|apply zk9) <;> intro hc)
    |(refine callP0 rfl ?_)
    |(refine callD0 rfl ?_)
    | fail)
   rw [← hfQ]
   exact z_of rfl
  ·have hA2 : ∀ m z,m < s + 1 → D[m]? = some z → strLt (kOb z) t = true := fun m z hm hz => by
    rcases Nat.lt_succ_iff_lt_or_eq.1 hm with h1 | rfl
    ·exact hA.out m z h1 hz
    ·rw [hy] at hz;obtain rfl := Option.some.inj hz;exact hlx
   replace hA2 := hide hA2
   repeat' (first
    | (simp -implicitDefEqProofs only [*,List.getElem?_map,Option.map_some,List.length_map,fOb,zr,Nat.reduceAdd,Nat.reduceSub,Nat.reduceMul,Nat.reduceLT,Nat.reduceLeDiff,Nat.reduceEqDiff,Nat.reduceBEq,reduceIte,reduceCtorEq,Int.reduceLE,Int.reduceLT,Int.reduceToNat,Int.reduceEq,Int.reduceNe])
    | ((first|apply zk0|apply zk1|apply zk2|apply zk3|apply zk4|apply zk5|apply zk6|apply zk7|apply zk8|apply zk9) <;> intro hc)
    |(refine callP0 rfl ?_)
    |(refine callD0 rfl ?_)
    | fail)
   refine ⟨s + 1,⟨hlt,hA2.out⟩,by omega,?_⟩
   refine wk_i ?_ ?_ <;> simp only [zw,Nat.reduceEqDiff,Nat.reduceBEq,Nat.reduceLT,Nat.reduceLeDiff,reduceIte,reduceCtorEq]
 ·obtain rfl : s = D.length := by omega
  have h2 := lt_f hge
  have h2i : decide ((D.length : Int) < (D.length : Int)) = false := dcF (by omega)
  have he : ix = D.length := hIX.out _ (Nat.le_refl _) hA.out (fun m x hm hx => by have := (List.getElem?_eq_some_iff.1 hx).1;omega)
  subst he
  repeat' (first
   | (simp -implicitDefEqProofs only [*,List.length_map,zr,Nat.reduceAdd,Nat.reduceSub,Nat.reduceMul,Nat.reduceLT,Nat.reduceLeDiff,Nat.reduceEqDiff,Nat.reduceBEq,reduceIte,reduceCtorEq,Int.reduceLE,Int.reduceLT,Int.reduceToNat,Int.reduceEq,Int.reduceNe])
   | ((first|apply zk0|apply zk1|apply zk2|apply zk3|apply zk4|apply zk5|apply zk6|apply zk7|apply zk8|apply zk9) <;> intro hc)
   |(refine callP0 rfl ?_)
   |(refine callD0 rfl ?_)
   |(refine cP (kcl) ?_)
   |(refine cD (kcl) ?_)
   |(refine cF (kcl) ?_)
   |(refine cO (kcl) ?_)
   |(refine cP (kcy) ?_)
   |(refine cD (kcy) ?_)
   |(refine cF (kcy) ?_)
   |(refine cO (kcy) ?_)
   | fail)
  refine gM hI.out [.sl 46 1 2 0 D.length,.f (.int .i64 D.length),.sl 52 1 2 0 1] [] ?_
  repeat' (first
   | (simp -implicitDefEqProofs only [*,zr,Nat.reduceAdd,Nat.reduceSub,Nat.reduceMul,Nat.reduceLT,Nat.reduceLeDiff,Nat.reduceEqDiff,Nat.reduceBEq,reduceIte,reduceCtorEq,Int.reduceLE,Int.reduceLT,Int.reduceToNat,Int.reduceEq,Int.reduceNe])
   | ((first|apply zk0|apply zk1|apply zk2|apply zk3|apply zk4|apply zk5|apply zk6|apply zk7|apply zk8|apply zk9) <;> intro hc)
   |(refine callP0 rfl ?_)
   |(refine callD0 rfl ?_)
   | fail)
  rw [← hfQ]
  exact z_of rfl
end Go.Proofs.YtjacnfjlocajoaaDoor
