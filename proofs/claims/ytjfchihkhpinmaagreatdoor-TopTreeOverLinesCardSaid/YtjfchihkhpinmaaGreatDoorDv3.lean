/-
  wire.Deliver. No statement of the seat is proved here; no conditions.
-/
import Derived.Test.YtjfchihkhpinmaaGreatDoorDv2
namespace Go.Proofs.YtjfchihkhpinmaaGreatDoor
open Go.RowKit Go.Shelf
set_option linter.unusedVariables false
set_option linter.unusedSimpArgs false
set_option maxRecDepth 100000

def Qu (r:Rc) (t:ByteArray) (b:List UInt8) (most:Int) (l:List Int):Rc × Int × Bool × Int:=
 if ckRc r≠0 then(([],[]),0,false,ckRc r)else if ckC t b≠0 then(([],[]),0,false,ckC t b)else if inRg most 1 65536=false then(([],[]),0,false,1)
 else if 100<l.length then(([],[]),0,false,2)else if l.any (fun n=> !inRg n 0 20000)=true then(([],[]),0,false,1)
 else if (delV t b most.toNat (l++ [-1]) r 0).1≠0 then(([],[]),0,false,(delV t b most.toNat (l++ [-1]) r 0).1)
 else((delV t b most.toNat (l++ [-1]) r 0).2.1,(delV t b most.toNat (l++ [-1]) r 0).2.2,hasK kOb (delV t b most.toNat (l++ [-1]) r 0).2.1.1 t,0)
def frI (l:List Int):FV:= .fr 1 (l.map encI)
theorem sq_hi {t:ByteArray}{b:List UInt8}{most v1:Nat}{R:(Bool × Int) × Rc × Int}(r:AV) (hl:List (Nat × Nat × AObj)) (h:SQ t b most v1 R r hl):r.hi=true∧JX hl=true:=by
 obtain⟨w2,w3,w4,rfl,rfl⟩:=h
 exact⟨rfl,hi_R⟩
theorem Yw {H:Heap}{q:Int} : Rets [rRc ([],[]),rInt 0,.c (.v (.bool false)),rInt q] (.tup [.agg [.f .nil,.f .nil],.f (.int .i64 0),.f (.bool false),.f (.int .i64 q)]) H:=
 ⟨[.agg [.f .nil,.f .nil],.f (.int .i64 0),.f (.bool false),.f (.int .i64 q)],rfl,⟨⟨.inl ⟨rfl,rfl,rfl⟩,.inl ⟨rfl,rfl,rfl⟩,rfl⟩,rfl,rfl,rfl,rfl⟩,List.nodup_nil⟩
theorem OV {t:ByteArray}{b:List UInt8}{most:Nat} : ∀ (k:Nat) (left:Int) (m:Mg) (r:Rc) (s:Int),left<0→(YE t b most k left m r s).1.1=true
 | 0,_,_,_,_,_=>rfl
 | k+1,left,m,r,s,h=>by
  rw[YE,if_neg (by omega)]
  split
  ·rfl
  ·exact OV k _ _ _ _ (by omega)
theorem rets_dOk {H:Heap}{q se:Int}{bo:Bool}{D:List Ob}{P:List Pt}{i2 i3 v2 v3:Nat}(h2:cellsOf v2 (H i2)=some ((rowF fOb D).map .f)) (h3:cellsOf v3 (H i3)=some ((rowF fPt P).map .f)) (hne:i2≠i3):Rets [rRc (D,P),rInt se,.c (.v (.bool bo)),rInt q] (.tup [.agg [.sl i2 v2 2 0 D.length,.sl i3 v3 3 0 P.length],.f (.int .i64 se),.f (.bool bo),.f (.int .i64 q)]) H:=
 ⟨[.agg [.sl i2 v2 2 0 D.length,.sl i3 v3 3 0 P.length],.f (.int .i64 se),.f (.bool bo),.f (.int .i64 q)],rfl,⟨⟨.inr ⟨_,_,rfl,h2,lenO rfl⟩,.inr ⟨_,_,rfl,h3,lenP rfl⟩,rfl⟩,rfl,rfl,rfl,rfl⟩,by simp [idsC,idsS,hne]⟩
theorem rowI {l:List Int} : (rowF encI l).map AV.f=l.map fun n=>AV.f (.int .i64 n):=by
 induction l with
 | nil=>rfl
 | cons a l ih=>rw[Qr,List.map_append,ih];rfl
theorem ints_at {l:List Int}{s:Nat}{x:Int}(h:(l++ [-1])[s]? = some x):((rowF encI l).map AV.f++ [AV.f (.int .i64 (-1))])[s]? = some (AV.f (.int .i64 x)):=by
 have e:(rowF encI l).map AV.f++ [AV.f (.int .i64 (-1))]=(l++ [-1]).map fun n=>AV.f (.int .i64 n):=by rw[List.map_append,rowI];rfl
 rw[e,List.getElem?_map,h];rfl
structure DvAt (t:ByteArray) (b:List UInt8) (most:Nat) (L:List Int) (V:Int × Rc × Int) (s:Nat) (r:Rc) (sent:Int):Prop where
 lt:s<L.length
 ok:ROk r
 se:0≤sent∧sent≤(s:Int)*6600000000
 eq:delV t b most (L.drop s) r sent=V
set_option maxHeartbeats 8000000 in
theorem Deliver_w (r:Rc) (t:ByteArray) (b:List UInt8) (most:Int) (l:List Int) (hl:(r.1.length:Int)≤9223372036854775807∧(r.2.length:Int)≤9223372036854775807) (hb:(∀ x∈r.1,(x.2.length:Int)≤9223372036854775807)∧∀ x∈r.2,(x.2.2.length:Int)≤9223372036854775807) :
  FRet Tryz.prog 7 [aRc r,.f (.str t),.f (frB b),.f (.int .i64 most),.f (frI l)] [rRc (Qu r t b most l).1,rInt (Qu r t b most l).2.1,.c (.v (.bool (Qu r t b most l).2.2.1)),rInt (Qu r t b most l).2.2.2]:=by
 have kc:=MH r hl hb
 have kC:=MP t b
 have kw:=Yo most 1 65536
 obtain⟨D,P⟩:=r
 clear hl hb
 unfold Qu
 refine FCall.of_ax KY ?_
 dsimp only[jm,ji,jf,jl,jL,jn,je,jx,jT,jC,jB,jq,jt,ju,jA,km,kf,kl,kn,kx,UF,aRc,frI]at kc ⊢
 refine zrs ?_
 by_cases h0:ckRc (D,P)=0
 case neg=>
  rw[if_pos h0]
  have d1:=dcF h0
  generalize ckRc (D,P)=q at*
  replace h0:=hide h0
  repeat'(first|(simp -implicitDefEqProofs only[*,zr,seval,reduceIte,reduceCtorEq])|(apply zk<;>intro hc)|(refine zp ?_)|(refine zd ?_)|(refine cP (kc) ?_)|(refine cD (kc) ?_)|(refine cF (kc) ?_)|(refine cO (kc) ?_)|fail)
  exact Yw
 rw[if_neg (fun h=>h h0)]
 rw[h0]at kc
 have hok:=WS.1 h0
 clear h0
 by_cases h1:ckC t b=0
 case neg=>
  rw[if_pos h1]
  have d1:=dcF h1
  generalize ckC t b=q at*
  replace h1:=hide h1
  replace hok:=hide hok
  repeat'(first|(simp -implicitDefEqProofs only[*,zr,seval,reduceIte,reduceCtorEq])|(apply zk<;>intro hc)|(refine zp ?_)|(refine zd ?_)|(refine cP (kc) ?_)|(refine cD (kc) ?_)|(refine cF (kc) ?_)|(refine cO (kc) ?_)|(refine cP (kC) ?_)|(refine cD (kC) ?_)|(refine cF (kC) ?_)|(refine cO (kC) ?_)|fail)
  exact Yw
 rw[if_neg (fun h=>h h1)]
 rw[h1]at kC
 cases h2:inRg most 1 65536 with
 | false=>
  rw[h2]at kw
  replace hok:=hide hok
  replace h1:=hide h1
  repeat'(first|(simp -implicitDefEqProofs only[*,zr,seval,reduceIte,reduceCtorEq])|(apply zk<;>intro hc)|(refine zp ?_)|(refine zd ?_)|(refine cP (kc) ?_)|(refine cD (kc) ?_)|(refine cF (kc) ?_)|(refine cO (kc) ?_)|(refine cP (kC) ?_)|(refine cD (kC) ?_)|(refine cF (kC) ?_)|(refine cO (kC) ?_)|(refine cP (kw) ?_)|(refine cD (kw) ?_)|(refine cF (kw) ?_)|(refine cO (kw) ?_)|fail)
  exact Yw
 | true=>
  rw[if_neg (by decide)]
  rw[h2]at kw
  by_cases h3:100<l.length
  ·have d1:decide ((l.length:Int) > 100)=true:=dcT (by omega)
   have d2:decide (100<l.length)=true:=dcT (by omega)
   have d3:decide (100<(l.length:Int))=true:=dcT (by omega)
   rw[if_pos h3]
   replace hok:=hide hok
   replace h1:=hide h1
   replace h3:=hide h3
   repeat'(first|(simp -implicitDefEqProofs only[*,List.length_map,zr,seval,reduceIte,reduceCtorEq])|(apply zk<;>intro hc)|(refine zp ?_)|(refine zd ?_)|(refine cP (kc) ?_)|(refine cD (kc) ?_)|(refine cF (kc) ?_)|(refine cO (kc) ?_)|(refine cP (kC) ?_)|(refine cD (kC) ?_)|(refine cF (kC) ?_)|(refine cO (kC) ?_)|(refine cP (kw) ?_)|(refine cD (kw) ?_)|(refine cF (kw) ?_)|(refine cO (kw) ?_)|fail)
   exact Yw
  rw[if_neg h3]
  have d1:decide ((l.length:Int) > 100)=false:=dcF (by omega)
  have d3:decide (100<(l.length:Int))=false:=dcF (by omega)
  have d2:decide (100<l.length)=false:=dcF (by omega)
  have kA:=cf_ints l 22 (fun n=> !inRg n 0 20000) (by omega) (fun x _=>QDs x)
  cases h4:l.any (fun n=> !inRg n 0 20000)with
  | true=>
   rw[h4]at kA
   replace hok:=hide hok
   replace h1:=hide h1
   replace h4:=hide h4
   repeat'(first|(simp -implicitDefEqProofs only[*,List.length_map,zr,seval,reduceIte,reduceCtorEq])|(apply zk<;>intro hc)|(refine zp ?_)|(refine zd ?_)|(refine cP (kc) ?_)|(refine cD (kc) ?_)|(refine cF (kc) ?_)|(refine cO (kc) ?_)|(refine cP (kC) ?_)|(refine cD (kC) ?_)|(refine cF (kC) ?_)|(refine cO (kC) ?_)|(refine cP (kw) ?_)|(refine cD (kw) ?_)|(refine cF (kw) ?_)|(refine cO (kw) ?_)|(refine cP (kA) ?_)|(refine cD (kA) ?_)|(refine cF (kA) ?_)|(refine cO (kA) ?_)|fail)
   exact Yw
  | false=>
   rw[if_neg (by decide)]
   rw[h4]at kA
   replace hok:=hide hok
   replace h1:=hide h1
   replace h4:=hide h4
   repeat'(first|(simp -implicitDefEqProofs only[*,List.length_map,zr,seval,reduceIte,reduceCtorEq])|(apply zk<;>intro hc)|(refine zp ?_)|(refine zd ?_)|(refine cP (kc) ?_)|(refine cD (kc) ?_)|(refine cF (kc) ?_)|(refine cO (kc) ?_)|(refine cP (kC) ?_)|(refine cD (kC) ?_)|(refine cF (kC) ?_)|(refine cO (kC) ?_)|(refine cP (kw) ?_)|(refine cD (kw) ?_)|(refine cF (kw) ?_)|(refine cO (kw) ?_)|(refine cP (kA) ?_)|(refine cD (kA) ?_)|(refine cF (kA) ?_)|(refine cO (kA) ?_)|fail)
   have ko:=own_hi D P t (by have:=hok.out.d.len;simp only at this;omega) (by have:=hok.out.p.len;simp only at this;omega) (fun x hx=>by have:=hok.out.d.ok x hx;omega) (fun x hx=>by have:=hok.out.p.ok x hx;omega) hok.out.p.rise
   have ko':FHi Tryz.prog 23 [.agg [.f (XJ D),.f (Ue P)]] [] (fun r hl=>r=.agg [.sl 100002 1 2 0 D.length,.sl 100101 1 3 0 P.length]∧hl=hiRc D P t 1 1 1):=ko
   clear ko kc kC kw kA d1 d2 d3
   obtain⟨mo,rfl⟩:∃ n:Nat,most=(n:Int):=⟨most.toNat,by simp only[inRg,Bool.and_eq_true,decide_eq_true_eq]at h2;omega⟩
   have hm:1≤mo∧mo≤65536:=by simp only[inRg,Bool.and_eq_true,decide_eq_true_eq]at h2;omega
   rw[Int.toNat_natCast]
   generalize hDV:delV t b mo (l++ [-1]) (D,P) 0=V at*
   refine KP rfl ko' rfl rfl (Jx (by repeat (first|exact QG rfl|exact YM|refine QC rfl ?_)) rfl rfl rfl rfl rfl rfl) own_hiq rfl rfl ?_
   rintro r hl' ⟨rfl,rfl⟩
   dsimp only[hiRc]
   refine zrs ?_
   repeat'(first|(simp -implicitDefEqProofs only[*,XG,zr,seval,reduceIte,reduceCtorEq])|(apply zk<;>intro hc)|(refine zp ?_)|(refine zd ?_)|fail)
   refine ax_mv [(55,100001,1)] (nw:=[]) (n:=95) (el:=[(1,.f (.str t)),(10,.ptr 10 1 0),(14,.ptr 14 1 0),(17,.ptr 100001 1 0),(56,.f (.fr 1 (l.map encI)))])
    (hl:=[(10,1,.cells [.f .nil,.f .nil]),(14,1,.cells [.f .nil,.f .nil]),(100001,1,.cells [.sl 100002 1 2 0 D.length,.sl 100101 1 3 0 P.length,.f (.str t),.f (frB b),.f (.int .i64 mo),.f (.int .i64 0)]),(100002,1,.cells ((rowF fOb D).map .f)),(100101,1,.cells (rowA (aY false 1) t P)),(100102,1,.cells (frY (yOf t P)))])
    ⟨by decide,by decide,fun e he=>by
     simp only[List.mem_cons,List.not_mem_nil,or_false]at he
     subst he
     exact⟨by decide,Nat.zero_lt_one⟩⟩ ?_ ?_
   ·refine wk_i (h2:=ZQ (by repeat (first|exact QG rfl|exact YM|refine VE ?_|refine QC rfl ?_)) rfl) ?_ ?_
    ·refine⟨by decide,?_,by decide,?_,by decide,?_,by decide,?_,by decide,?_,trivial⟩
     ·exact Ya (.f (.str t)) rfl
     ·show SlotOk _ _ [] (.ptr 10 1 0) _
      rw[so_pp];exact⟨rfl,rfl,rfl,rfl,by simp,rfl,rfl⟩
     ·show SlotOk _ _ [] (.ptr 14 1 0) _
      rw[so_pp];exact⟨rfl,rfl,rfl,rfl,by simp,rfl,rfl⟩
     ·show SlotOk _ _ [] (.ptr 100001 1 0) _
      rw[so_pp];exact⟨rfl,rfl,rfl,rfl,by simp,rfl,rfl⟩
     ·exact Ya (.f (.fr 1 (l.map encI))) rfl
    ·refine hl_c (cs0:=[.f .nil,.f .nil]) rfl (Vs (l:=[.nil,.nil])) (hl_c (cs0:=[.f .nil,.f .nil]) rfl (Vs (l:=[.nil,.nil])) (hl_c (cs0:=[.sl 100002 1 2 0 D.length,.sl 100101 1 3 0 P.length,.f (.str t),.f (frB b),.f (.int .i64 mo),.f (.int .i64 0)]) rfl ⟨by rw[so_ss];exact⟨rfl,rfl,rfl,rfl,rfl,rfl,by simp,rfl,rfl⟩,by rw[so_ss];exact⟨rfl,rfl,rfl,rfl,rfl,rfl,by simp,rfl,rfl⟩,Vs (l:=[.str t,frB b,.int .i64 mo,.int .i64 0])⟩ (hl_c (cs0:=AV.turnL _ ((rowF fOb D).map .f)) rfl (by rw[tl_fs];exact Vs) (hl_c (cs0:=AV.turnL _ (rowA (fun n=> .sl 100102 1 1 0 n) t P)) rfl (by
      rw[Uo (a':=fun n=> .sl 100102 1 1 0 n) (fun n=>rfl)]
      exact ZP (fun n=>by show SlotOk _ _ [] (.sl 100102 1 1 0 n) (.sl 100102 1 1 0 n);rw[so_ss];exact⟨rfl,rfl,rfl,rfl,rfl,rfl,by simp,rfl,rfl⟩) P) (hl_c (cs0:=AV.turnL _ (frY (yOf t P))) rfl (by rw[tl_frY];exact Wd) trivial)))))
   have kcl:=cloneI_f l (by omega)
   have h8:((l.length+1)*8≤140737488355328)=True:=by rw[eq_iff_iff,iff_true];omega
   have hxs:=fun s x (h:(l++ [-1])[s]? = some x)=>ints_at h
   have hrl:(rowF encI l).length=l.length:=by rw[QD (sz:=1) (fun _=>rfl),Nat.mul_one]
   replace hxs:=hide hxs
   refine zrs ?_
   repeat'(first|(simp -implicitDefEqProofs only[*,zr,seval,reduceIte,reduceCtorEq])|(apply zk<;>intro hc)|(refine zp ?_)|(refine zd ?_)|(refine cP (kcl) ?_)|(refine cD (kcl) ?_)|(refine cF (kcl) ?_)|(refine cO (kcl) ?_)|fail)
   have hlen:(l++ [-1]).length=l.length+1:=List.length_append
   have hbr:∀ s x,(l++ [-1])[s]? = some x→ -1≤x∧x≤1000000:=fun s x h=>by
    rcases List.mem_append.1 (List.mem_of_getElem? h)with hm|hm
    ·have:=List.any_eq_false.1 h4.out x hm
     simp only[inRg,Bool.not_eq_true,Bool.not_eq_false',Bool.and_eq_true,decide_eq_true_eq]at this
     omega
    ·simp only[List.mem_cons,List.not_mem_nil,or_false]at hm
     omega
   have hla:∀ s x,(l++ [-1])[s]? = some x→¬ s+1<(l++ [-1]).length→x = -1:=fun s x h hn=>by
    have hs:s=l.length:=by have:=(List.getElem?_eq_some_iff.1 h).1;omega
    subst hs
    rw[List.getElem?_append_right (Nat.le_refl _),Nat.sub_self]at h
    exact(Option.some.inj h).symm
   replace hbr:=hide hbr
   replace hla:=hide hla
   generalize hL:l++ [-1]=L at*
   obtain⟨F,hF⟩:∃ F:List FV,(rowF encI l).map AV.f++ [AV.f (.int .i64 (-1))]=F.map AV.f:=⟨rowF encI l++ [.int .i64 (-1)],by rw[List.map_append];rfl⟩
   have hxs':=fun s x (h:L[s]? = some x)=>by have:=hxs.out s x h;rw[hF]at this;exact this
   have hFl:F.length=L.length:=by
    have:=congrArg List.length hF
    rw[List.length_append,List.length_map,List.length_map,hrl]at this
    rw[hlen];exact this.symm
   replace hxs':=hide hxs'
   clear hxs
   repeat'(first|(simp -implicitDefEqProofs only[*,zr,seval,reduceIte,reduceCtorEq])|(apply zk<;>intro hc)|(refine zp ?_)|(refine zd ?_)|fail)
   refine QK (S:=Nat × Rc × Int × Nat × Nat × Nat) 95 [1,10,14,17,59,60] [10,14,57] (fun s=>[(61,.f (.int .i64 s.1))]) (fun s=>[(100001,1,AObj.cells [.sl 100002 s.2.2.2.1 2 0 s.2.1.1.length,.sl 100101 s.2.2.2.2.1 3 0 s.2.1.2.length,.f (.str t),.f (frB b),.f (.int .i64 mo),.f (.int .i64 s.2.2.1)]),(100002,s.2.2.2.1,AObj.cells ((rowF fOb s.2.1.1).map .f)),(100101,s.2.2.2.2.1,AObj.cells (rowA (aY false s.2.2.2.2.2) t s.2.1.2)),(100102,s.2.2.2.2.2,AObj.cells (frY (yOf t s.2.1.2)))]) (fun s=>DvAt t b mo L V s.1 s.2.1 s.2.2.1) (fun s=>L.length - s.1) ((0,(D,P),0,1,1,1)) [] ?_ ?_ fun s hs=> ?_
   ·exact⟨by dsimp only;omega,hok.out,by dsimp only;omega,hDV⟩
   ·refine wk_i ?_ ?_<;>simp only[zw,seval,reduceIte,reduceCtorEq]
    first
     | exact⟨ZP (fun n=>by show SlotOk _ _ [] (.sl 100102 1 1 0 n) (.sl 100102 1 1 0 n);rw[so_ss];exact⟨rfl,rfl,rfl,rfl,rfl,rfl,by simp,rfl,rfl⟩) P,Wd,Vs⟩
     | exact⟨ZP (fun n=>by show SlotOk _ _ [] (.sl 100102 1 1 0 n) (.sl 100102 1 1 0 n);rw[so_ss];exact⟨rfl,rfl,rfl,rfl,rfl,rfl,by simp,rfl,rfl⟩) P,Wd⟩
     | exact ZP (fun n=>by show SlotOk _ _ [] (.sl 100102 1 1 0 n) (.sl 100102 1 1 0 n);rw[so_ss];exact⟨rfl,rfl,rfl,rfl,rfl,rfl,by simp,rfl,rfl⟩) P
   obtain⟨s,⟨E,Q⟩,se,w2,w3,w4⟩:=s
   obtain⟨hlt,hEQ,hse,heq⟩:=hs
   dsimp only at hlt hEQ hse heq ⊢
   refine zrs ?_
   obtain⟨x,hx⟩:=QH hlt
   have hxF:=hxs'.out s x hx
   have h2':decide ((s:Int)<((l.length+1:Nat):Int))=true:=dcT (by omega)
   have h2'':decide (s<l.length+1)=true:=dcT (by omega)
   have h4':=XU hlt (by omega)
   have g1:(s<l.length+1)=True:=by rw[eq_iff_iff,iff_true];omega
   have g2:(s+1≤F.length)=True:=by rw[eq_iff_iff,iff_true];omega
   have hb':b.length≤100000:=by
    have:=h1.out
    unfold ckC at this
    split at this
    ·cases this
    ·split at this
     ·cases this
     ·omega
   have hdg:XZ t=true:=by
    have:=h1.out
    unfold ckC at this
    split at this
    ·cases this
    ·rename_i hh;simpa using hh
   have hbx:=hbr.out s x hx
   have ho:=once_hi E Q t b mo x se 1 w2 w3 w4 hEQ hdg hb' hm hbx (by omega)
   have hoo:=once_ok hdg hb' hm (b.length+2) x (1,t,0,b.length,[]) (E,Q) se ⟨hEQ,.inl rfl⟩ (by unfold meas;rw[if_pos rfl];omega)
   have hon:x = -1→(YE t b mo (b.length+2) x (1,t,0,b.length,[]) (E,Q) se).1.1=true:=fun h=>OV _ _ _ _ _ (by omega)
   rw[List.drop_eq_getElem_cons hlt,show L[s]=x by have:=List.getElem?_eq_getElem hlt;rw[hx]at this;exact(Option.some.inj this).symm,delV]at heq
   generalize YE t b mo (b.length+2) x (1,t,0,b.length,[]) (E,Q) se=W at*
   replace ho:=hide ho
   replace hoo:=hide hoo
   replace hon:=hide hon
   replace hEQ:=hide hEQ
   replace heq:=hide heq
   clear hDV
   repeat'(first|(simp -implicitDefEqProofs only[*,zr,seval,reduceIte,reduceCtorEq])|(apply zk<;>intro hc)|(refine zp ?_)|(refine zd ?_)|fail)
   refine KP rfl ho.out rfl rfl (Jx (by repeat (first|exact QG rfl|exact YM|refine QC rfl ?_)) rfl rfl rfl rfl rfl rfl) sq_hi hi_R rfl ?_
   rintro r hl' ⟨u2,u3,u4,rfl,rfl⟩
   obtain⟨⟨bo,fa⟩,⟨E2,Q2⟩,se2⟩:=W
   dsimp only[hiR,sZs,List.map,List.cons_append,List.nil_append]
   have heq':=heq.out
   have hoo':=hoo.out
   have hon':=hon.out
   dsimp only at heq' hoo' hon'
   clear heq hoo hon ho
   refine zrs ?_
   by_cases hfa:fa=0
   case neg=>
    rw[if_pos hfa]at heq'
    subst heq'
    rw[if_pos hfa]
    have e1:=dcF hfa
    replace hoo':=hide hoo'
    replace hon':=hide hon'
    replace hfa:=hide hfa
    repeat'(first|(simp -implicitDefEqProofs only[*,XG,zr,seval,reduceIte,reduceCtorEq])|(apply zk<;>intro hc)|(refine zp ?_)|(refine zd ?_)|fail)
    exact Yw
   rw[if_neg (fun h=>h hfa)]at heq'
   have e1:=dcT hfa
   have hR2:=hoo'.1 hfa
   subst hfa
   cases bo with
   | false=>
    rw[if_neg (by decide)]at heq'
    have hs1:s+1<L.length:=by
     rcases Nat.lt_or_ge (s+1) L.length with h|h
     ·exact h
     ·have:=hon' (hla.out s x hx (by omega));cases this
    replace hR2:=hide hR2
    replace heq':=hide heq'
    replace hon':=hide hon'
    repeat'(first|(simp -implicitDefEqProofs only[*,XG,zr,seval,reduceIte,reduceCtorEq])|(apply zk<;>intro hc)|(refine zp ?_)|(refine zd ?_)|fail)
    refine⟨(s+1,(E2,Q2),se2,u2,u3,u4),⟨hs1,hR2.out,by dsimp only;omega,heq'.out⟩,by dsimp only;omega,?_⟩
    dsimp only
    refine wk_i (h2:=VE (QG rfl)) ?_ ?_<;>simp only[XG,zw,seval,reduceIte,reduceCtorEq]
    exact⟨ZP (fun n=>by show SlotOk _ _ [] (.sl 100102 u4 1 0 n) (.sl 100102 u4 1 0 n);rw[so_ss];exact⟨rfl,rfl,rfl,rfl,rfl,rfl,by simp,rfl,rfl⟩) Q2,Wd⟩
   | true=>
    rw[if_pos rfl]at heq'
    subst heq'
    rw[if_neg (fun h=>h rfl)]
    have kd:=Ks E2 .any rfl t (by have:=hR2.d.len;simp only at this;omega) hR2.d.rise
    have hri:=hR2.p.rise
    replace hR2:=hide hR2
    replace hon':=hide hon'
    dsimp only
    dsimp only at hri
    replace hri:=hide hri
    generalize hasK kOb E2 t=hk at*
    repeat'(first|(simp -implicitDefEqProofs only[*,XG,zr,seval,reduceIte,reduceCtorEq])|(apply zk<;>intro hc)|(refine zp ?_)|(refine zd ?_)|fail)
    refine MD 100102 u4 (n:=95) (el:=[(10,.ptr 10 1 0),(17,.ptr 100001 1 0),(81,.agg [.sl 100002 u2 2 0 E2.length,.sl 100101 u3 3 0 Q2.length]),(82,.f (.str t))])
     (hl:=[(10,1,.cells [.f .nil,.f .nil]),(100001,1,.cells [.sl 100002 u2 2 0 E2.length,.sl 100101 u3 3 0 Q2.length,.f (.str t),.f (frB b),.f (.int .i64 mo),.f (.int .i64 se2)]),(100002,u2,.cells ((rowF fOb E2).map .f)),(100101,u3,.cells ((rowF fPt Q2).map .f))]) ?_ ?_ ?_ (hsm:=VE (QG rfl))
    ·refine⟨by decide,?_,by decide,?_,by decide,?_,by decide,?_,trivial⟩
     ·show SlotOk _ _ [] (.ptr 10 1 0) _
      rw[so_pp];exact⟨rfl,rfl,rfl,rfl,by simp,rfl,rfl⟩
     ·show SlotOk _ _ [] (.ptr 100001 1 0) _
      rw[so_pp];exact⟨rfl,rfl,rfl,rfl,by simp,rfl,rfl⟩
     ·show SlotOk _ _ [] (.agg [.sl 100002 u2 2 0 E2.length,.sl 100101 u3 3 0 Q2.length]) _
      rw[so_aa]
      exact⟨by rw[so_ss];exact⟨rfl,rfl,rfl,rfl,rfl,rfl,by simp,rfl,rfl⟩,by rw[so_ss];exact⟨rfl,rfl,rfl,rfl,rfl,rfl,by simp,rfl,rfl⟩,rfl⟩
     ·exact Ya (.f (.str t)) rfl
    ·refine hl_c (cs0:=[.f .nil,.f .nil]) rfl (Vs (l:=[.nil,.nil])) (hl_c (cs0:=[.sl 100002 u2 2 0 E2.length,.sl 100101 u3 3 0 Q2.length,.f (.str t),.f (frB b),.f (.int .i64 mo),.f (.int .i64 se2)]) rfl ⟨by rw[so_ss];exact⟨rfl,rfl,rfl,rfl,rfl,rfl,by simp,rfl,rfl⟩,by rw[so_ss];exact⟨rfl,rfl,rfl,rfl,rfl,rfl,by simp,rfl,rfl⟩,Vs (l:=[.str t,frB b,.int .i64 mo,.int .i64 se2])⟩ (hl_c (cs0:=(rowF fOb E2).map .f) rfl Vs (hl_c (cs0:=rowA (aY false u4) t Q2) rfl (Kg hri.out QA rfl (fun h=>by cases h)) trivial)))
    refine callA rfl kd rfl ⟨Oy QA,.inl (.inl fz_f),trivial⟩ rfl (by repeat (first|exact QQ rfl|exact QQ (by simp)|refine Qa rfl ?_)) ?_
    repeat'(first|(simp -implicitDefEqProofs only[*,zr,seval,reduceIte,reduceCtorEq])|(apply zk<;>intro hc)|(refine zp ?_)|(refine zd ?_)|fail)
    exact rets_dOk QA QA (by decide)
end Go.Proofs.YtjfchihkhpinmaaGreatDoor
