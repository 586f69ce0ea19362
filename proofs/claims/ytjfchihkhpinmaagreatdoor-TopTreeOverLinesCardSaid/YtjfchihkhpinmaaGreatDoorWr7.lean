/-
  Data of a part. No statement of the seat is proved here; no conditions.
-/
import Derived.Test.YtjfchihkhpinmaaGreatDoorWr6
namespace Go.Proofs.YtjfchihkhpinmaaGreatDoor
open Go.RowKit Go.Shelf
set_option linter.unusedVariables false
set_option linter.unusedSimpArgs false
set_option maxRecDepth 100000

theorem MS {α : Type}{l:List α}{i:Nat}{x : α}(h:l[i]? = some x):l.take (i+1)=l.take i++ [x]:=by rw[List.take_add_one,h];rfl
theorem equalY_f (l r:List UInt8) (hl:(l.length:Int)≤9223372036854775807):FRet Tryz.prog 112 [.f (frB l),.f (frB r)] [.c (.v (.bool (decide (l=r))))]:=by
 refine FCall.of_ax Ym ?_
 dsimp only[jm,ji,jf,jl,jL,jn,je,jx,jT,jC,jB,jq,jt,ju,jA,km,kf,kl,kn,kx,XV,frB]
 refine zrs ?_
 by_cases hlr:l.length=r.length
 ·have h1:decide ((l.length:Int)=(r.length:Int))=true:=dcT (by omega)
  replace hlr:=hide hlr
  repeat'(first|(simp -implicitDefEqProofs only[*,List.length_map,zr,seval,reduceIte,reduceCtorEq])|(apply zk<;>intro hc)|(refine zp ?_)|(refine zd ?_)|fail)
  refine QK (S:=Nat) 26 [0,1,12] [] (fun s=>[(13,.f (.int .i64 s))]) (fun s=>[]) (fun s=>s≤l.length∧l.take s=r.take s) (fun s=>l.length - s) (0) [] ?_ ?_ fun s hs=> ?_
  ·exact⟨Nat.zero_le _,rfl⟩
  ·refine wk_i ?_ ?_<;>simp only[zw,seval,reduceIte,reduceCtorEq]
  obtain⟨hi,he⟩:=hs
  have he':=hide he
  clear he
  refine zrs ?_
  rcases Nat.lt_or_ge s l.length with hlt|hge
  ·have h2:=lt_t hlt
   have h4:=XU hlt hl
   obtain⟨x,hx⟩:=QH hlt
   obtain⟨y,hy⟩:=QH (l:=r) (i:=s) (by have:=hlr.out;omega)
   by_cases hxy:x=y
   ·subst hxy
    have h5:decide ((x.toNat:Int)=(x.toNat:Int))=true:=dcT rfl
    repeat'(first|(simp -implicitDefEqProofs only[*,List.getElem?_map,Option.map_some,encU,zr,seval,reduceIte,reduceCtorEq])|(apply zk<;>intro hc)|(refine zp ?_)|(refine zd ?_)|fail)
    refine⟨s+1,⟨hlt,by rw[MS hx,MS hy,he'.out]⟩,by omega,?_⟩
    refine wk_i ?_ ?_<;>simp only[zw,seval,reduceIte,reduceCtorEq]
   ·have h5:decide ((x.toNat:Int)=(y.toNat:Int))=false:=dcF (fun h=>hxy (UInt8.toNat_inj.1 (by omega)))
    have hne:decide (l=r)=false:=dcF (by rintro rfl;rw[hx]at hy;exact hxy (Option.some.inj hy))
    rw[hne]
    clear hne
    repeat'(first|(simp -implicitDefEqProofs only[*,List.getElem?_map,Option.map_some,encU,zr,seval,reduceIte,reduceCtorEq])|(apply zk<;>intro hc)|(refine zp ?_)|(refine zd ?_)|fail)
    exact VO
  ·have h2:=lt_f hge
   have he2:decide (l=r)=true:=dcT (by
    have:=he'.out
    rw[List.take_of_length_le (by omega),List.take_of_length_le (by have:=hlr.out;omega)]at this
    exact this)
   rw[he2]
   clear he2
   repeat'(first|(simp -implicitDefEqProofs only[*,zr,seval,reduceIte,reduceCtorEq])|(apply zk<;>intro hc)|(refine zp ?_)|(refine zd ?_)|fail)
   exact VO
 ·have h1:decide ((l.length:Int)=(r.length:Int))=false:=dcF (by omega)
  have he2:decide (l=r)=false:=dcF (by rintro rfl;exact hlr rfl)
  rw[he2]
  clear he2
  replace hlr:=hide hlr
  repeat'(first|(simp -implicitDefEqProofs only[*,List.length_map,zr,seval,reduceIte,reduceCtorEq])|(apply zk<;>intro hc)|(refine zp ?_)|(refine zd ?_)|fail)
  exact VO
theorem St.nilSl {P:Program}{G:QM}{H:Heap}{Z:Nat→Prop}{w:World}(st:St P G H Z w){o vo j id ver:Nat}{cs:List AV}{ob:AObj}(ho:H o=(vo,some (.cells cs))) (hj:cs[j]? = some (.f .nil)) (hid:H id=(ver,some ob)):St P G (upd H o (vo,some (.cells (cs.set j (.sl id ver 1 0 0))))) Z w:=by
 obtain⟨loc,hl,_⟩:=st.obj id ob (by rw[hid])
 have hG:G id=(ver,some loc):=Prod.ext (by rw[st.ver,hid]) hl
 refine⟨fun i=> ?_,fun i h=> ?_,fun i o' h=> ?_,st.inj,st.disj,st.zlt,st.glt,st.ones⟩
 ·by_cases e:i=o
  ·subst e;rw[upd_same,st.ver,ho]
  ·rw[QL _ _ _ _ e];exact st.ver i
 ·by_cases e:i=o
  ·subst e;rw[upd_same]at h;cases h
  ·rw[QL _ _ _ _ e]at h;exact st.dead i h
 ·by_cases e:i=o
  ·subst e
   rw[upd_same]at h
   obtain rfl:=Option.some.inj h
   obtain⟨lo,k1,k2⟩:=st.obj i (.cells cs) (by rw[ho])
   refine⟨lo,k1,?_⟩
   cases lo with
   | none=>
    have:cs = []:=k2
    subst this
    simp at hj
   | some q=>
    obtain⟨g,of⟩:=q
    obtain⟨arr,e,k3,k4⟩:=k2
    refine⟨arr,e,k3,fun m a hm=> ?_⟩
    rw[List.getElem?_set]at hm
    by_cases e2:j=m
    ·subst e2
     have hlt:=(List.getElem?_eq_some_iff.1 hj).1
     rw[if_pos rfl,if_pos hlt]at hm
     obtain rfl:=Option.some.inj hm
     obtain⟨v,q1,q2,q3⟩:=k4 j _ hj
     refine⟨v,q1,q2,?_⟩
     obtain⟨A,rfl⟩:=q3.nil_
     exact .slCap _ _ _ _ _ loc hG
    ·rw[if_neg e2]at hm
     exact k4 m a hm
  ·rw[QL _ _ _ _ e]at h;exact st.obj i o' h
theorem OK {v v':Nat}{z:Bool}{t:ByteArray}{P:List Pt}{p:Pt}(hr:QZ kPt P) (h:P[Qc P t]? = some p) (ht:p.1=t) (b:List UInt8) (hq:hasK kPt (P.take (Qc P t)) t=false∧hasK kPt (P.drop (Qc P t+1)) t=false):(rowA (aY z v) t P).set (Qc P t*3+2) (.sl 100102 v' 1 0 b.length)=rowA (aY false v') t (P.set (Qc P t) (t,p.2.1,b)):=by
 obtain⟨q1,q2,q3⟩:=QBr (a:=aY z v) (t:=t) h
 have hl:=(List.getElem?_eq_some_iff.1 h).1
 have e:rowA (aY z v) t P=rowA (aY z v) t (P.take (Qc P t))++(fPtA (aY z v) t p++rowA (aY z v) t (P.drop (Qc P t+1))):=by
  conv=>lhs;rw[← List.take_append_drop (Qc P t) P,q2,Kj,Vt]
 have hf:fPtA (aY z v) t p = [.f (.str p.1),.f (.int .i64 p.2.1),aY z v p.2.2.length]:=by unfold fPtA;rw[if_pos ht]
 have hs:P.set (Qc P t) (t,p.2.1,b)=P.take (Qc P t)++(t,p.2.1,b)::P.drop (Qc P t+1):=List.set_eq_take_append_cons_drop.trans (if_pos hl)
 have hf2:fPtA (aY false v') t (t,p.2.1,b) = [.f (.str t),.f (.int .i64 p.2.1),.sl 100102 v' 1 0 b.length]:=by unfold fPtA;rw[if_pos rfl];rfl
 rw[e,List.set_append_right _ _ (by omega),q3,Nat.add_sub_cancel_left,hf,hs,Kj,Vt,hf2,VM hq.1,VM hq.1,VM hq.2,VM hq.2,ht]
 rfl
theorem US {P:List Pt}(hr:QZ kPt P){t:ByteArray}{p:Pt}(h:P[Qc P t]? = some p) (ht:p.1=t):hasK kPt (P.take (Qc P t)) t=false∧hasK kPt (P.drop (Qc P t+1)) t=false:=by
 have hne:∀ (m:Nat) z,P[m]? = some z→m≠Qc P t→kPt z≠t:=fun m z hz hm he=>hm (Yu hr hz h (by show kPt z=p.1;rw[ht];exact he))
 refine⟨VJ.2 fun y hy=> ?_,VJ.2 fun y hy=> ?_⟩
 ·obtain⟨m,hm⟩:=List.mem_iff_getElem?.1 hy
  have hlt:=(List.getElem?_eq_some_iff.1 hm).1
  rw[List.length_take]at hlt
  rw[List.getElem?_take,if_pos (by omega)]at hm
  exact hne m y hm (by omega)
 ·obtain⟨m,hm⟩:=List.mem_iff_getElem?.1 hy
  rw[List.getElem?_drop]at hm
  exact hne _ y hm (by omega)
theorem FHi.nil {Pr:Program}{f:FuncId}{args:List AV}{q:AV→List (Nat × Nat × AObj)→Prop}{D:List Ob}{P:List Pt}{t:ByteArray}{v1 v2 v3 v4:Nat}{zs:List FV}{p:Pt}(hr:QZ kPt P) (h:P[Qc P t]? = some p) (ht:p.1=t) (hy:yOf t P = []) (hF:FHi Pr f args (hiR D P t false v1 v2 v3 v4 zs) q):FHi Pr f args (hiR D P t true v1 v2 v3 v4 zs) q:=by
 have hpb:p.2.2 = []:=by
  have:=Ug hr (List.mem_of_getElem? h)
  rw[ht,hy]at this;exact this.symm
 obtain⟨-,c2,-⟩:=Yy (z:=true) (v:=v4) h ht
 rw[hpb]at c2
 have hset:=OK (z:=true) (v:=v4) (v':=v4) hr h ht [] (US hr h ht)
 have hP:P.set (Qc P t) (t,p.2.1,[])=P:=by
  refine List.ext_getElem? fun i=> ?_
  rw[List.getElem?_set]
  split
  ·rename_i e
   subst e
   rw[if_pos (List.getElem?_eq_some_iff.1 h).1,h]
   obtain⟨a,b,c⟩:=p
   simp only at ht hpb
   rw[ht,hpb]
  ·rfl
 rw[hP]at hset
 refine⟨hF.1,fun G Z w vs st hsz hrep=> ?_⟩
 have st2:=st.nilSl (o:=100101) (vo:=v3) (j:=Qc P t*3+2) (id:=100102) (ver:=v4) (cs:=rowA (aY true v4) t P) (ob:= .cells (frY (yOf t P))) rfl c2 rfl
 have e:upd (mkH (hiR D P t true v1 v2 v3 v4 zs)) 100101 (v3,some (.cells ((rowA (aY true v4) t P).set (Qc P t*3+2) (.sl 100102 v4 1 0 0))))=mkH (hiR D P t false v1 v2 v3 v4 zs):=by
  funext id
  by_cases e:id=100101
  ·subst e
   rw[upd_same]
   rw[show(AV.sl 100102 v4 1 0 0)=AV.sl 100102 v4 1 0 ([]:List UInt8).length from rfl,hset]
   rfl
  ·rw[QL _ _ _ _ e]
   show VP id _=VP id _
   simp only[hiR,lookH_cons,lookH_nil,if_neg e]
 rw[e]at st2
 exact hF.2 G Z w vs st2 hsz hrep
theorem so_mid {H:Heap}{id ver f n:Nat}{l:List UInt8}(hc:cellsOf ver (H id)=some (frY l)) (hn:f+n≤l.length):SlotOk H H0 [] (.sl id ver 1 f n) (.f (frB ((l.drop f).take n))):=by
 unfold frB
 simp only[SlotOk]
 refine⟨trivial,by rw[List.length_map,List.length_take,List.length_drop];omega,fun x hx=>by obtain⟨y,_,rfl⟩:=List.mem_map.1 hx;rfl,rfl,frY l,hc,by unfold frY;rw[List.length_map,QD (sz:=1) (fun _=>rfl)];omega,?_⟩
 unfold frY
 rw[← List.map_drop,Un (sz:=1) (fun _=>rfl),← List.map_take,Jg (sz:=1) (fun _=>rfl)]
 rfl
theorem so_frY {H H':Heap}{nw:List Nat}{b:List UInt8}{n:Nat} : SlotOk H H' nw (.f (.fr 1 ((b.map encU).take n))) (.f (frB (b.take n))):= .inl (by unfold frB;rw[List.map_take])
structure DtOk (p:Pt) (f:Nat) (b:List UInt8):Prop where
 b0:0<b.length
 bl:b.length≤100000
 pl:p.2.2.length≤100000
 f1:f≤2000000
 sz : -1000000≤p.2.1∧p.2.1≤1000000
set_option maxHeartbeats 8000000 in
theorem data_0 (D:List Ob) (P:List Pt) (p:Pt) (t:ByteArray) (mk sz:Int) (f:Nat) (b:List UInt8) (v1 v2 v3 v4:Nat) (zs:List FV) (hD:D.length≤4000) (hrD:QZ kOb D) (hP:P.length≤1000000) (hrP:QZ kPt P) (hp:P[Qc P t]? = some p) (ht:p.1=t) (hok:DtOk p f b) :
  FHi Tryz.prog 79 [.ptr 100001 v1 0,.f (.int .i64 (Qc P t)),aMg (mk,t,f,sz,b)] (hiR D P t false v1 v2 v3 v4 zs) (TQ t v1 zs (v2+3) (v3+3) (v4+3) (Zw D P p t f b)):=by
 have hlt0:=(List.getElem?_eq_some_iff.1 hp).1
 obtain⟨c1,c2,c3⟩:=Yy (z:=false) (v:=v4) hp ht
 have c2':(rowA (aY false v4) t P)[Qc P t*3+2]? = some (.sl 100102 v4 1 0 p.2.2.length):=c2
 have hy:yOf t P=p.2.2:=by have:=Ug hrP (List.mem_of_getElem? hp);rw[ht]at this;exact this
 obtain⟨o1,o2,o3,o4,o5⟩:=hok
 have hset:=fun v b'=>OK (z:=false) (v:=v4) (v':=v) hrP hp ht b' (US hrP hp ht)
 have hdel:=QBT P t hlt0 hP
 have hQr:=(XM.2 (List.Pairwise.sublist delP_sub (XM.1 hrP)):QZ kPt (delP P t))
 have hQn:=Ja hrP hp ht
 have hrow:=hide hrP
 have hP':=hide hp
 clear hrP hp c2
 obtain⟨i,hi⟩:∃ i,Qc P t=i:=⟨_,rfl⟩
 rw[hi]at c1 c2' c3 hlt0 hset hdel ⊢
 have hil:((i:Int)<(P.length:Int)):=by omega
 have hw1:IntKind.i64.wrap ((i:Int)+1)=((i+1:Nat):Int):=by rw[QR]<;>omega
 unfold Zw
 rw[Int.toNat_natCast]
 refine FHi.of (FCall.of_ax Oh ?_)
 dsimp only[jm,ji,jf,jl,jL,jn,je,jx,jT,jC,jB,jq,jt,ju,jA,km,kf,kl,kn,kx,Ni,aMg,fMg,hiR,List.map]
 rw[hy]
 refine zrs ?_
 by_cases q1:(p.2.2.length:Int)<f
 ·rw[if_pos q1]
  have d1:decide (p.2.2.length<f)=true:=dcT (by omega)
  clear hset hdel
  replace q1:=hide q1
  repeat'(first|(simp -implicitDefEqProofs only[*,QE,List.cons_append,List.nil_append,zr,seval,reduceIte,reduceCtorEq])|(apply zk<;>intro hc)|(refine zp ?_)|(refine zd ?_)|fail)
  exact .inl (Vf (D:=D) (P:=P) (z:=false) (v2:=v2) (v3:=v3) (v4:=v4) rfl (fun h=>by cases h) rfl (by repeat (first|exact QG rfl|refine QC rfl ?_)) rfl rfl rfl (by show(v4,some (AObj.cells (frY p.2.2)))=(v4,some (AObj.cells (frY (yOf t P))));rw[hy]) rfl)
 rw[if_neg q1]
 have d1:decide (p.2.2.length<f)=false:=dcF (by omega)
 have hw2:IntKind.i64.wrap ((p.2.2.length:Int) - (f:Int))=((p.2.2.length - f:Nat):Int):=by rw[QR]<;>omega
 have hmn:min ((b.length:Nat):Int) ((p.2.2.length - f:Nat):Int)=((min b.length (p.2.2.length - f):Nat):Int):=by omega
 obtain⟨both,hbo⟩:∃ both,min b.length (p.2.2.length - f)=both:=⟨_,rfl⟩
 rw[hbo]at hmn ⊢
 have hb1:both≤b.length:=by omega
 have hb2:f+both≤p.2.2.length:=by omega
 have hw3:IntKind.i64.wrap ((f:Int)+(both:Int))=((f+both:Nat):Int):=by rw[QR]<;>omega
 have g1:((both:Int)≤(b.length:Int))=True:=by rw[eq_iff_iff,iff_true];omega
 have g2:((f:Int)≤((f+both:Nat):Int))=True:=by rw[eq_iff_iff,iff_true];omega
 have g3:(((f+both:Nat):Int)≤(p.2.2.length:Int))=True:=by rw[eq_iff_iff,iff_true];omega
 have kE:=equalY_f (b.take both) ((p.2.2.drop f).take both) (by rw[List.length_take];omega)
 have hq1:=hide q1
 have hrD':=hide hrD
 have hQr':=hide hQr
 clear q1 hrD hQr
 have e1:f+both - f=both:=by omega
 have g4:((b.length:Int)≤(b.length:Int))=True:=by rw[eq_iff_iff,iff_true];exact Int.le_refl _
 repeat'(first|(simp -implicitDefEqProofs only[*,QE,frB,List.cons_append,List.nil_append,List.length_map,zr,seval,reduceIte,reduceCtorEq])|(apply zk<;>intro hc)|(refine zp ?_)|(refine zd ?_)|fail)
 refine KQ [100102] kE (fun H2 hh=>⟨.inl (.inl (fz_so so_frY)),.inl (.inl (fz_so (so_mid (by rw[hh 100102 (by simp)];exact QA) hb2))),trivial⟩) ?_
 by_cases q2:b.take both=(p.2.2.drop f).take both
 case neg=>
  rw[if_neg q2]
  have d2:=dcF q2
  clear hset hdel
  replace q2:=hide q2
  repeat'(first|(simp -implicitDefEqProofs only[*,QE,frB,zr,seval,reduceIte,reduceCtorEq])|(apply zk<;>intro hc)|(refine zp ?_)|(refine zd ?_)|fail)
  exact .inl (Vf (D:=D) (P:=P) (z:=false) (v2:=v2) (v3:=v3) (v4:=v4) rfl (fun h=>by cases h) rfl (by repeat (first|exact QG rfl|refine QC rfl ?_)) rfl rfl rfl (by show(v4,some (AObj.cells (frY p.2.2)))=(v4,some (AObj.cells (frY (yOf t P))));rw[hy]) rfl)
 rw[if_pos q2]
 have d2:=dcT q2
 have hw4:IntKind.i64.wrap ((f:Int)+(b.length:Int))=((f+b.length:Nat):Int):=by rw[QR]<;>omega
 by_cases q3:p.2.1<(f:Int)+b.length
 ·rw[if_pos q3]
  have d3:decide (((f+b.length:Nat):Int) > p.2.1)=true:=dcT (by omega)
  clear hset hdel
  replace q2:=hide q2
  replace q3:=hide q3
  repeat'(first|(simp -implicitDefEqProofs only[*,QE,frB,List.length_map,zr,seval,reduceIte,reduceCtorEq])|(apply zk<;>intro hc)|(refine zp ?_)|(refine zd ?_)|fail)
  exact .inl (Vf (D:=D) (P:=P) (z:=false) (v2:=v2) (v3:=v3) (v4:=v4) rfl (fun h=>by cases h) rfl (by repeat (first|exact QG rfl|refine QC rfl ?_)) rfl rfl rfl (by show(v4,some (AObj.cells (frY p.2.2)))=(v4,some (AObj.cells (frY (yOf t P))));rw[hy]) rfl)
 rw[if_neg q3]
 have d3:decide (((f+b.length:Nat):Int) > p.2.1)=false:=dcF (by omega)
 replace q2:=hide q2
 replace q3:=hide q3
 have hfl:(frY p.2.2).length=p.2.2.length:=by unfold frY;rw[List.length_map,QD (sz:=1) (fun _=>rfl)];omega
 have e2:List.drop both (List.take b.length (List.map encU b))=(b.drop both).map encU:=by rw[List.take_of_length_le (by rw[List.length_map];exact Nat.le_refl _),List.map_drop]
 have hEl:(b.drop both).length≤100000:=by rw[List.length_drop];omega
 generalize b.drop both=E at*
 have e3:(p.2.2.length+E.length≤140737488355328)=True:=by rw[eq_iff_iff,iff_true];omega
 have e4:frY p.2.2++List.map AV.f (List.map encU E).flatten=frY (p.2.2++E):=by unfold frY rowF;rw[List.map_append,List.flatten_append,List.map_append]
 have hB:=hset (v4+1) (p.2.2++E)
 have hBl:(p.2.2++E).length=p.2.2.length+E.length:=List.length_append
 rw[hBl]at hB ⊢
 generalize p.2.2++E=B at*
 generalize hY:frY p.2.2=Y at*
 obtain⟨n2,hn2⟩:∃ n2,p.2.2.length+E.length=n2:=⟨_,rfl⟩
 rw[hn2]at e3 hB hBl ⊢
 have hn2l:n2≤1000000:=by omega
 have hCl:i*3+2<(rowA (aY false v4) t P).length:=by rw[Ji];omega
 have s1:((rowA (aY false v4) t P).set (i*3+2) (.sl 100102 (v4+1) 1 0 n2))[i*3+2]? = some (.sl 100102 (v4+1) 1 0 n2):=List.getElem?_set_self hCl
 have s2:((rowA (aY false v4) t P).set (i*3+2) (.sl 100102 (v4+1) 1 0 n2))[i*3+1]? = some (.f (.int .i64 p.2.1)):=by rw[List.getElem?_set_ne (by omega)];exact c1
 have s3:(i*3+2+1≤((rowA (aY false v4) t P).set (i*3+2) (.sl 100102 (v4+1) 1 0 n2)).length)=True:=by rw[List.length_set];exact c3
 have hP2r:QZ kPt (P.set i (t,p.2.1,B)):=Wh hrow.out (by rw[← hi];exact hP'.out) (by show t=p.1;exact ht.symm)
 have hP2m:(t,p.2.1,B)∈P.set i (t,p.2.1,B):=List.mem_iff_getElem?.2 ⟨i,by rw[List.getElem?_set,if_pos rfl,if_pos hlt0]⟩
 have hy2:yOf t (P.set i (t,p.2.1,B))=B:=Ug hP2r hP2m
 have hP2l:(P.set i (t,p.2.1,B)).length=P.length:=List.length_set
 have hdq:(P.set i (t,p.2.1,B)).take i++(P.set i (t,p.2.1,B)).drop (i+1)=delP P t:=by
  unfold delP
  rw[hi,List.take_set_of_le (Nat.le_refl _),List.drop_set_of_lt (by omega)]
 have hs4:=hide e4
 have hB':=hide hB
 have hBl':=hide hBl
 have hP2:=hide (And.intro hP2r (And.intro hy2 hP2l))
 have hdq':=hide hdq
 clear hset hdel hP2r hP2m hB hBl hy2 hP2l hdq q2 hEl
 have e5:Y++List.map AV.f (List.map encU E).flatten=frY B:=e4
 clear e4
 generalize hC2:(rowA (aY false v4) t P).set (i*3+2) (.sl 100102 (v4+1) 1 0 n2)=C2 at*
 by_cases q4:(n2:Int)<p.2.1
 ·rw[if_pos q4]
  have d4:decide ((n2:Int)<p.2.1)=true:=dcT q4
  replace q4:=hide q4
  repeat'(first|(simp -implicitDefEqProofs only[*,QE,frB,List.length_map,zr,seval,reduceIte,reduceCtorEq])|(apply zk<;>intro hc)|(refine zp ?_)|(refine zd ?_)|fail)
  exact .inl (Vf (D:=D) (P:=P.set i (t,p.2.1,B)) (z:=false) (v2:=v2) (v3:=v3) (v4:=v4+1) rfl (fun h=>by cases h) rfl (by repeat (first|exact QG rfl|refine QC rfl ?_))
   (by show _=(v1,some (AObj.cells ([.sl 100002 v2 2 0 D.length,.sl 100101 v3 3 0 (P.set i (t,p.2.1,B)).length]++zs.map .f)));rw[hP2.out.2.2];rfl) rfl
   (by show _=(v3,some (AObj.cells (rowA (aY false (v4+1)) t (P.set i (t,p.2.1,B)))));rw[← hB'.out];rfl)
   (by show _=(v4+1,some (AObj.cells (frY (yOf t (P.set i (t,p.2.1,B))))));rw[hP2.out.2.1];rfl) rfl)
 ·rw[if_neg q4]
  have d4:decide ((n2:Int)<p.2.1)=false:=dcF q4
  replace q4:=hide q4
  repeat'(first|(simp -implicitDefEqProofs only[*,QE,frB,List.length_map,zr,seval,reduceIte,reduceCtorEq])|(apply zk<;>intro hc)|(refine zp ?_)|(refine zd ?_)|fail)
  have kd:=QBU (P.set i (t,p.2.1,B)) i (i+1) (by omega) (by rw[hP2.out.2.2];omega) (by rw[hP2.out.2.2];exact hP)
  have hQl:=QAG (P:=P) (t:=t) (by rw[hi];exact hlt0)
  rw[hP2.out.2.2,hdq'.out,show i+(P.length - (i+1))=(delP P t).length by rw[hQl];omega]at kd
  replace kd:=kd.cut1 (by rw[QD (sz:=3) (fun _=>rfl)];exact Nat.le_refl _)
  refine MD 100102 (v4+1) (n:=122) (el:=[(0,.ptr 100001 v1 0),(1,.f (.int .i64 i)),(5,.ptr 5 1 0),(6,.ptr 6 1 0),(10,.f (frB B)),(104,.ptr 100001 v1 0),(108,.sl 100101 v3 3 0 P.length),(109,.f (.int .i64 i)),(111,.f (.int .i64 ((i+1:Nat):Int)))])
   (hl:=[(5,1,.cells [.f (.int .i64 mk),.f (.str t),.f (.int .i64 f),.f (.int .i64 sz),.f (.fr 1 (b.map encU))]),(6,1,.cells [.f (.int .i64 0),.f (.str ⟨#[]⟩),.f (.int .i64 0),.f (.int .i64 0),.f .nil]),(100001,v1,.cells (.sl 100002 v2 2 0 D.length:: .sl 100101 v3 3 0 P.length::zs.map .f)),(100002,v2,.cells ((rowF fOb D).map .f)),(100101,v3,.cells ((rowF fPt (P.set i (t,p.2.1,B))).map .f))]) ?_ ?_ ?_
  ·simp only[zw,seval,reduceIte,reduceCtorEq]
   exact Zx (enc:=encU) (sz:=1) (l:=B) (fun _=>rfl) rfl QA hBl'.out.symm
  ·simp only[zw,seval,reduceIte,reduceCtorEq]
   rw[hB'.out]
   exact Kg hP2.out.1 (by rw[hP2.out.2.1];exact QA) rfl (fun h=>by cases h)
  refine gM kd [.sl 100101 v3 3 0 P.length,.f (.int .i64 i),.f (.int .i64 ((i+1:Nat):Int))] [] ?_ (hri:=⟨.inr ⟨_,_,rfl,QA,lenP hP2.out.2.2⟩,rfl,rfl,rfl⟩)
  have hB2:(B.length:Int)≤9223372036854775807:=by rw[hBl'.out];omega
  have ew:(VB D (delP P t) t B).2.1.2=delP P t:=by unfold VB;split<;>(try split)<;>rfl
  have kw:=QBk D (delP P t) t B zs hD hrD'.out hB2
  obtain⟨V,hV⟩:∃ V,VB D (delP P t) t B=V:=⟨_,rfl⟩
  rw[hV]at kw ew ⊢
  obtain⟨Q,hQ⟩:∃ Q,delP P t=Q:=⟨_,rfl⟩
  rw[hQ]at kw ew hQl hQn ⊢
  replace hV:=hide hV
  replace hQ:=hide hQ
  replace kw:=hide kw
  replace ew:=hide ew
  replace hQl:=hide hQl
  clear kd hC2 s1 s2 s3 hy hQr'
  repeat'(first|(simp -implicitDefEqProofs only[*,QE,QA,List.cons_append,List.nil_append,zr,seval,reduceIte,reduceCtorEq])|(apply zk<;>intro hc)|(refine zp ?_)|(refine zd ?_)|fail)
  refine gP kw.out 100001 v1 (.sl 100002 v2 2 0 D.length:: .sl 112 1 3 0 Q.length::zs.map .f) [] [.f (.str t),.f (frB B)] ?_ (hc:=QA) (hpc:=⟨.inr ⟨_,_,rfl,QA,lenO rfl⟩,.inr ⟨_,_,rfl,QA,lenP rfl⟩,(Zm zs).1⟩) (hnd:=by simp [idsC,idsS,(Zm (H:=H0) zs).2]) (hni:=by simp [idsC,idsS,(Zm (H:=H0) zs).2])
  repeat'(first|(simp -implicitDefEqProofs only[*,Qe,QX,ZT,(Zm (H:=H0) zs).2,QA,List.cons_append,List.nil_append,rMg,rInt,fAn,zr,seval,reduceIte,reduceCtorEq])|(apply zk<;>intro hc)|(refine zp ?_)|(refine zd ?_)|fail)
  exact .inr (tq_mv2 (D:=V.2.1.1) (P:=Q) (z:=false) (u2:=1) (u3:=1) (w2:=v2+1) (w3:=v3+1) (w4:=v4+1+1) (i2:=119) (i3:=1119) (C:=rowF fPt Q) (by rw[← ew.out]) (fun h=>by cases h) rfl (by repeat (first|exact QG rfl|refine QC rfl ?_)) rfl rfl rfl (by rw[ZL hQn];rfl) rfl (VM hQn).symm (Nat.lt_succ_self v2) (Nat.lt_succ_self v3) (by decide) (by decide) (by decide))
theorem data_hi (D:List Ob) (P:List Pt) (p:Pt) (t:ByteArray) (mk sz:Int) (f:Nat) (b:List UInt8) (z:Bool) (v1 v2 v3 v4:Nat) (zs:List FV) (hD:D.length≤4000) (hrD:QZ kOb D) (hP:P.length≤1000000) (hrP:QZ kPt P) (hp:P[Qc P t]? = some p) (ht:p.1=t) (hok:DtOk p f b) (hz:z=true→yOf t P = []) :
  FHi Tryz.prog 79 [.ptr 100001 v1 0,.f (.int .i64 (Qc P t)),aMg (mk,t,f,sz,b)] (hiR D P t z v1 v2 v3 v4 zs) (TQ t v1 zs (v2+3) (v3+3) (v4+3) (Zw D P p t f b)):=by
 have h:=data_0 D P p t mk sz f b v1 v2 v3 v4 zs hD hrD hP hrP hp ht hok
 cases z with
 | false=>exact h
 | true=>exact h.nil hrP hp ht (hz rfl)
end Go.Proofs.YtjfchihkhpinmaaGreatDoor
