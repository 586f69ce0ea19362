/-
  What take hands back, with fixed numbers: fit for drawn regions. No statement of the seat is proved here; no conditions.
-/
import Derived.Test.YtjfchihkhpinmaaGreatDoorMsP
namespace Go.Proofs.YtjfchihkhpinmaaGreatDoor
open Go.RowKit Go.Shelf
set_option linter.unusedVariables false
set_option linter.unusedSimpArgs false
set_option maxRecDepth 100000

theorem QBf {D:List Ob}{P:List Pt}{t:ByteArray}{s:Int}(h:QZ kPt P) (hn:hasK kPt P t=false):QZ kPt (beg2 D P t s).2.1.2:=by
 unfold beg2 VB
 repeat' split
 all_goals first|exact h|exact Yv h (t,s,[]) hn
theorem QDL {D:List Ob}{P:List Pt}{t:ByteArray}{b:List UInt8}(h:QZ kPt P):QZ kPt (VB D P t b).2.1.2:=by
 unfold VB
 repeat' split
 all_goals exact h
theorem QBV {P:List Pt}{t:ByteArray}(h:QZ kPt P):QZ kPt (delP P t):=XM.2 (List.Pairwise.sublist delP_sub (XM.1 h))
theorem take_rise {D:List Ob}{P:List Pt}{m:Mg}(h:QZ kPt P):QZ kPt (VC D P m).2.1.2:=by
 unfold VC
 split
 ·exact h
 split
 ·exact h
 split
 ·exact h
 split
 ·unfold Xv
  split
  ·rename_i hg;exact QBf h (JC h hg)
  ·rename_i p hg
   split
   ·exact h
   ·obtain⟨g1,g2,_⟩:=XO h hg
    exact QBf (QBV h) (Ja h g1 g2)
 split
 ·exact h
 rename_i p hg
 obtain⟨g1,g2,_⟩:=XO h hg
 split
 ·unfold Zw
  split
  ·exact h
  split
  ·split
   ·exact h
   split
   ·exact Wh h g1 g2.symm
   ·exact QDL (QBV h)
  ·exact h
 ·exact h
theorem St.unnil {Pr:Program}{G:QM}{H:Heap}{Z:Nat→Prop}{w:World}{D:List Ob}{P:List Pt}{t:ByteArray}{z:Bool}{v1 v2 v3 v4:Nat}{zs:List FV}(st:St Pr G H Z w) (hh:hiP H=mkH (hiR D P t z v1 v2 v3 v4 zs)) (hz:z=true→yOf t P = []) (hr:QZ kPt P) :
  ∃ H',St Pr G H' Z w∧hiP H'=mkH (hiR D P t false v1 v2 v3 v4 zs):=by
 cases z with
 | false=>exact⟨H,st,hh⟩
 | true=>
  cases hk:hasK kPt P t with
  | false=>
   refine⟨H,st,?_⟩
   rw[hh]
   unfold hiR
   rw[VM hk,VM hk]
  | true=>
   obtain⟨p,h,ht⟩:=bs_at hr hk
   have h:P[Qc P t]? = some p:=h
   have ht:p.1=t:=ht
   have hpb:p.2.2 = []:=by
    have:=Ug hr (List.mem_of_getElem? h)
    rw[ht,hz rfl]at this;exact this.symm
   obtain⟨-,c2,-⟩:=Yy (z:=true) (v:=v4) h ht
   rw[hpb]at c2
   have hset:=OK (z:=true) (v:=v4) (v':=v4) hr h ht [] (US hr h ht)
   have hP:P.set (Qc P t) (t,p.2.1,[])=P:=by
    refine List.ext_getElem? fun i=> ?_
    rw[List.getElem?_set]
    split
    ·rename_i e
     subst e
     rw[if_pos (List.getElem?_eq_some_iff.1 h).1,h]
     obtain⟨a,b,c⟩:=p
     simp only at ht hpb
     rw[ht,hpb]
    ·rfl
   rw[hP]at hset
   have st2:=st.nilSl (o:=100101) (vo:=v3) (j:=Qc P t*3+2) (id:=100102) (ver:=v4) (cs:=rowA (aY true v4) t P) (ob:= .cells (frY (yOf t P))) (Ov hh (by decide)) c2 (Ov hh (by decide))
   refine⟨_,st2,?_⟩
   funext id
   by_cases e:id<100000
   ·show(if id<100000 then _ else _)=_
    rw[if_pos e]
    show _=VP id _
    simp only[hiR,lookH_cons,lookH_nil,if_neg (show ¬ id=100001 by omega),if_neg (show ¬ id=100002 by omega),if_neg (show ¬ id=100101 by omega),if_neg (show ¬ id=100102 by omega)]
   ·rw[QBG (by omega)]
    by_cases e2:id=100101
    ·subst e2
     rw[upd_same,show(AV.sl 100102 v4 1 0 0)=AV.sl 100102 v4 1 0 ([]:List UInt8).length from rfl,hset]
     rfl
    ·rw[QL _ _ _ _ e2,Ov hh (by omega)]
     show VP id _=VP id _
     simp only[hiR,lookH_cons,lookH_nil,if_neg e2]
theorem mv_canon {H:Heap}{D:List Ob}{P:List Pt}{t:ByteArray}{v1 w2 w3 w4 b2 b3 b4:Nat}{zs:List FV}(hh:hiP H=mkH (hiR D P t false v1 w2 w3 w4 zs)) (hw:w2<b2∧w3<b3∧w4<b4) :
  MvOk H [(100002,100002,b2),(100101,100101,b3),(100102,100102,b4)]∧hiP (mvH H [(100002,100002,b2),(100101,100101,b3),(100102,100102,b4)])=mkH (hiR D P t false v1 b2 b3 b4 zs):=by
 have k2:H 100002=(w2,some (.cells ((rowF fOb D).map .f))):=Ov hh (by decide)
 have k3:H 100101=(w3,some (.cells (rowA (aY false w4) t P))):=Ov hh (by decide)
 have k4:H 100102=(w4,some (.cells (frY (yOf t P)))):=Ov hh (by decide)
 have k1:H 100001=(v1,some (.cells (.sl 100002 w2 2 0 D.length:: .sl 100101 w3 3 0 P.length::zs.map .f))):=Ov hh (by decide)
 generalize hl:([(100002,100002,b2),(100101,100101,b3),(100102,100102,b4)]:Mv)=l
 have f2:∀ (sz n:Nat),AV.turn (mvT H l) (.sl 100002 w2 sz 0 n)=.sl 100002 b2 sz 0 n:=fun sz n=>by
  have:mvTo H l 100002 w2=some (100002,b2):=by subst hl;unfold mvTo;simp [k2]
  show(match mvTo H l 100002 w2 with|some q=>AV.sl q.1 q.2 sz 0 n|none=> .any)=_
  rw[this]
 have f3:∀ (sz n:Nat),AV.turn (mvT H l) (.sl 100101 w3 sz 0 n)=.sl 100101 b3 sz 0 n:=fun sz n=>by
  have:mvTo H l 100101 w3=some (100101,b3):=by subst hl;unfold mvTo;simp [k3]
  show(match mvTo H l 100101 w3 with|some q=>AV.sl q.1 q.2 sz 0 n|none=> .any)=_
  rw[this]
 have f4:∀ (sz n:Nat),AV.turn (mvT H l) (.sl 100102 w4 sz 0 n)=.sl 100102 b4 sz 0 n:=fun sz n=>by
  have:mvTo H l 100102 w4=some (100102,b4):=by subst hl;unfold mvTo;simp [k4]
  show(match mvTo H l 100102 w4 with|some q=>AV.sl q.1 q.2 sz 0 n|none=> .any)=_
  rw[this]
 refine⟨?_,?_⟩
 ·subst hl
  refine⟨by show [100002,100101,100102].Nodup;decide,by show [100002,100101,100102].Nodup;decide,fun e he=> ?_⟩
  simp only[List.mem_cons,List.not_mem_nil,or_false]at he
  rcases he with rfl|rfl|rfl
  ·exact⟨by show 100000≤100002;decide,by show(H 100002).1<b2;rw[k2];exact hw.1⟩
  ·exact⟨by show 100000≤100101;decide,by show(H 100101).1<b3;rw[k3];exact hw.2.1⟩
  ·exact⟨by show 100000≤100102;decide,by show(H 100102).1<b4;rw[k4];exact hw.2.2⟩
 ·funext id
  by_cases e:id<100000
  ·show(if id<100000 then _ else _)=VP id _
   rw[if_pos e]
   simp only[hiR,lookH_cons,lookH_nil,if_neg (show ¬ id=100001 by omega),if_neg (show ¬ id=100002 by omega),if_neg (show ¬ id=100101 by omega),if_neg (show ¬ id=100102 by omega)]
  ·rw[QBG (by omega)]
   by_cases e1:id=100001
   ·subst e1
    show mvH H l 100001=(v1,some (.cells (.sl 100002 b2 2 0 D.length:: .sl 100101 b3 3 0 P.length::zs.map .f)))
    have:mvH H l 100001=((H 100001).1,(H 100001).2.map (tnO (mvT H l))):=by subst hl;rfl
    rw[this,k1]
    show(v1,some (AObj.cells (AV.turnL _ _)))=_
    rw[tl_cons,tl_cons,tl_fs,f2,f3]
   ·by_cases e2:id=100002
    ·subst e2
     show mvH H l 100002=(b2,some (.cells ((rowF fOb D).map .f)))
     have:mvH H l 100002=(b2,(H 100002).2.map (tnO (mvT H l))):=by subst hl;rfl
     rw[this,k2]
     show(b2,some (AObj.cells (AV.turnL _ _)))=_
     rw[tl_fs]
    ·by_cases e3:id=100101
     ·subst e3
      show mvH H l 100101=(b3,some (.cells (rowA (aY false b4) t P)))
      have:mvH H l 100101=(b3,(H 100101).2.map (tnO (mvT H l))):=by subst hl;rfl
      rw[this,k3]
      show(b3,some (AObj.cells (AV.turnL _ _)))=_
      rw[Uo (a:=aY false w4) (a':=aY false b4) (fun n=>f4 1 n)]
     ·by_cases e4:id=100102
      ·subst e4
       show mvH H l 100102=(b4,some (.cells (frY (yOf t P))))
       have:mvH H l 100102=(b4,(H 100102).2.map (tnO (mvT H l))):=by subst hl;rfl
       rw[this,k4]
       show(b4,some (AObj.cells (AV.turnL _ (frY _))))=_
       unfold frY
       rw[tl_fs]
      ·have hz:H id=(0,none):=by
        rw[Ov hh (by omega)]
        simp only[hiR,lookH_cons,lookH_nil,if_neg e1,if_neg e2,if_neg e3,if_neg e4]
       have:mvH H l id=(0,none):=by
        subst hl
        unfold mvH
        simp only[List.find?_cons,List.find?_nil,List.any_cons,List.any_nil,beq_eq_false_iff_ne.2 (fun h=>e2 h.symm),beq_eq_false_iff_ne.2 (fun h=>e3 h.symm),beq_eq_false_iff_ne.2 (fun h=>e4 h.symm),Bool.or_self,Bool.false_eq_true,if_false,hz,Option.map_none]
       rw[this]
       show _=VP id _
       simp only[hiR,lookH_cons,lookH_nil,if_neg e1,if_neg e2,if_neg e3,if_neg e4]
def TQC (t:ByteArray) (v1:Nat) (zs:List FV) (b2 b3 b4:Nat) (V:TR) (r:AV) (hl:List (Nat × Nat × AObj)):Prop:=r=.tup [.agg ((fAn V.2.2).map .f),.f (.int .i64 V.1)]∧hl=hiR V.2.1.1 V.2.1.2 t false v1 b2 b3 b4 zs
theorem FHi.canon {Pr:Program}{f:FuncId}{args:List AV}{hl:List (Nat × Nat × AObj)}{t:ByteArray}{v1 b2 b3 b4:Nat}{zs:List FV}{V:TR}(h:FHi Pr f args hl (TQ t v1 zs b2 b3 b4 V)) (hr:QZ kPt V.2.1.2):FHi Pr f args hl (TQC t v1 zs b2 b3 b4 V):=
 ⟨h.1,fun G Z w vs h1 h2 h3=>(h.2 G Z w vs h1 h2 h3).mono fun e w' ⟨v,r,H',G',Z',e1,⟨hl',⟨z,w2,w3,w4,hz,hr',hhl,hw⟩,hh⟩,st,hist,hrep⟩=>by
  subst hr' hhl
  obtain⟨H1,st1,hh1⟩:=st.unnil hh hz hr
  obtain⟨m1,m2⟩:=mv_canon hh1 hw
  obtain⟨st2,hist2⟩:=st1.mv m1
  exact⟨v,_,_,_,Z',e1,⟨_,⟨Mw,rfl⟩,m2⟩,st2,hist.trans hist2,hrep.turn (Wm st1 m1)⟩⟩
theorem take_c (D:List Ob) (P:List Pt) (m:Mg) (z:Bool) (v1 v2 v3 v4:Nat) (zs:List FV) (hok:ROk (D,P)) (hz:z=true→yOf m.2.1 P = []) (hbm:(m.2.2.2.2.length:Int)≤9223372036854775807) :
  FHi Tryz.prog 51 [.ptr 100001 v1 0,aMg m] (hiR D P m.2.1 z v1 v2 v3 v4 zs) (TQC m.2.1 v1 zs (v2+3) (v3+3) (v4+3) (VC D P m)):=
 (take_hi D P m z v1 v2 v3 v4 zs hok hz hbm).canon (take_rise hok.p.rise)
end Go.Proofs.YtjfchihkhpinmaaGreatDoor
