/-
  The reference's follow. No statement of the seat is proved here; no conditions.
-/
import Derived.Test.YtfajjcmagngfiaaGreatDoorRd8
import Derived.Test.YtfajjcmagngfiaaGreatDoorHit
namespace Go.Proofs.YtfajjcmagngfiaaGreatDoor
open Go.RowKit Go.Shelf
set_option linter.unusedVariables false
set_option linter.unusedSimpArgs false
set_option maxRecDepth 100000

abbrev nilP:FV:= .lit (.pointer none)
def errR (q:Int):List RS:=[.c (.v nilP),.c (.v .nil),.c (.v (.int .i64 0)),.c (.v (.int .i64 q))]
def okR (c2:Cache) (A:List Ans) (m:Int):List RS:=[.c (.v (pCache c2)),.c (.v (frAns A)),.c (.v (.int .i64 m)),.c (.v (.int .i64 0))]
theorem ret_err {q:Int}{H:Heap} : Rets (errR q) (.tup [.f nilP,.f .nil,.f (.int .i64 0),.f (.int .i64 q)]) H:=⟨[_,_,_,_],rfl,⟨rfl,rfl,rfl,rfl,rfl⟩,by simp [idsS]⟩
theorem fR_bad0 (c:Cache) (l:List Ev) (hb:SBound c) (hk:ckCache c≠0):FRet Tryz.prog 26 [aCache c,.f (frEvs l)] (errR (ckCache c)):=by
 have hc:=CheckCacheR_f c hb
 generalize ckCache c=q at*
 have d0:decide (q=0)=false:=dcF hk
 replace hk:=hide hk
 replace hb:=hide hb
 obtain⟨room,lease,bl,en⟩:=c
 refine FCall.of_ax low_ref7_follow ?_
 dsimp only[jm,ji,jf,jl,jL,jn,je,jx,jT,jC,jB,jq,jt,ju,jA,km,kf,kl,kn,kx,l_ref7_follow,aCache,frEvs]at hc ⊢
 refine zs ?_
 repeat'(first|(simp -implicitDefEqProofs only[*,addFp_wr,zr,seval,reduceIte,reduceCtorEq])|(apply zk<;>intro hc)|(refine zp ?_)|(refine zd ?_)|(refine cP (hc) ?_)|(refine cD (hc) ?_)|(refine cF (hc) ?_)|fail)
 exact ret_err
theorem fR_bad1 (c:Cache) (l:List Ev) (hb:SBound c) (hk:ckCache c=0) (hlen:3000<l.length):FRet Tryz.prog 26 [aCache c,.f (frEvs l)] (errR 2):=by
 have hc:=CheckCacheR_f c hb
 rw[hk]at hc
 have d0:decide ((0:Int)=0)=true:=rfl
 have dl:decide ((3000:Int)<(l.length:Int))=true:=dcT (by omega)
 have dl2:decide ((l.length:Int) > 3000)=true:=dl
 clear hk hlen
 replace hb:=hide hb
 obtain⟨room,lease,bl,en⟩:=c
 refine FCall.of_ax low_ref7_follow ?_
 dsimp only[jm,ji,jf,jl,jL,jn,je,jx,jT,jC,jB,jq,jt,ju,jA,km,kf,kl,kn,kx,l_ref7_follow,aCache,frEvs]at hc ⊢
 refine zs ?_
 repeat'(first|(simp -implicitDefEqProofs only[*,addFp_wr,List.length_map,zr,seval,reduceIte,reduceCtorEq])|(apply zk<;>intro hc)|(refine zp ?_)|(refine zd ?_)|(refine cP (hc) ?_)|(refine cD (hc) ?_)|(refine cF (hc) ?_)|fail)
 exact ret_err
set_option maxHeartbeats 8000000 in
theorem fR_run (c:Cache) (l:List Ev) (hb:SBound c) (hk:ckCache c=0) (hlen:l.length≤3000) (hd:∀ e∈l,EvB e) :
  FRet Tryz.prog 26 [aCache c,.f (frEvs l)] (if (fol c l).2.2=0 then okR (fol c l).1 (fol c l).2.1 (pk (sumSz c.2.2.1) c l)else errR (fol c l).2.2):=by
 have hR:=right_iff.1 hk
 have hc:=CheckCacheR_f c hb
 have hO:=copied_f c (by have:=hR.blen;omega) (by have:=hR.elen;omega) (fun x hx=>by have:=ckDigs_len (entOk_iff.1 (hR.eok x hx)).2.1;omega)
 have hby:=fun (x:Cache) (h:CRight x)=>by
  have:=bytesOf_f x.2.2.1 (by have:=h.blen;omega)
  rw[(cok_of (right_iff.2 h)).wsum]at this
  exact this
 have hb0:=hby c hR
 rw[hk]at hc
 have d0:decide ((0:Int)=0)=true:=rfl
 have dl:decide ((3000:Int)<(l.length:Int))=false:=dcF (by omega)
 have dl2:decide ((l.length:Int) > 3000)=false:=dl
 have hF0:=folAt_0 (l:=l) hR
 have hD:=hide hd
 have hBY:=hide hby
 replace hb:=hide hb
 clear hd hk hR hby
 obtain⟨room,lease,bl,en⟩:=c
 generalize hf:fol (room,lease,bl,en) l=r at*
 dsimp only at hb0 ⊢
 generalize hpk:pk (sumSz bl) (room,lease,bl,en) l=PK
 generalize sumSz bl=m0 at*
 replace hf:=hide hf
 refine FCall.of_ax low_ref7_follow ?_
 dsimp only[jm,ji,jf,jl,jL,jn,je,jx,jT,jC,jB,jq,jt,ju,jA,km,kf,kl,kn,kx,l_ref7_follow,aCache,frEvs]at hc hO ⊢
 refine zs ?_
 repeat'(first|(simp -implicitDefEqProofs only[*,addFp_wr,wrL_3,List.length_map,zr,seval,reduceIte,reduceCtorEq])|(apply zk<;>intro hc)|(refine zp ?_)|(refine zd ?_)|(refine cP (hc) ?_)|(refine cD (hc) ?_)|(refine cF (hc) ?_)|fail)
 refine callN rfl hO rfl (LeL.refl _) rfl (by repeat (first|exact free_0|exact free_mk (by simp)|refine free_upd rfl ?_|refine free_kill ?_)) ?_
 clear hO
 repeat'(first|(simp -implicitDefEqProofs only[*,addFp_wr,wrL_3,zr,seval,reduceIte,reduceCtorEq])|(apply zk<;>intro hc)|(refine zp ?_)|(refine zd ?_)|fail)
 refine gG hb0 ⟨fz_so (so_row0 (enc:=fBlob) (fun _=>rfl) rfl rfl rfl),trivial⟩ ?_
 clear hb0
 repeat'(first|(simp -implicitDefEqProofs only[*,addFp_wr,wrL_3,zr,seval,reduceIte,reduceCtorEq])|(apply zk<;>intro hc)|(refine zp ?_)|(refine zd ?_)|fail)
 refine ax_loopW (S:=Nat × List Blob × List Entry × List Ans × Int) 62 [1,9] [] (fun s=>[(12,.f (.int .i64 s.1)),(11,.sl 51 1 3 0 s.2.2.2.1.length),(10,.f (.int .i64 s.2.2.2.2))]) (fun s=>[(2024,1,AObj.cells [.f (.int .i64 room),.f (.int .i64 lease),.sl 24 1 5 0 s.2.1.length,.sl 1024 1 3 0 s.2.2.1.length]),(24,1,AObj.cells ((rowF fBlob s.2.1).map AV.f)),(1024,1,AObj.cells ((rowF fEntry s.2.2.1).map AV.f)),(51,1,AObj.cells ((rowF fAns s.2.2.2.1).map AV.f))]) (fun s=>FolAt (room,lease,bl,en) l s.1 (room,lease,s.2.1,s.2.2.1) s.2.2.2.1∧PK=pk s.2.2.2.2 (room,lease,s.2.1,s.2.2.1) (l.drop s.1)) (fun s=>l.length - s.1) ((0,bl,en,[],m0)) [51] [] ?_ rfl ?_ fun s hs=> ?_
 ·exact⟨hF0,hpk.symm⟩
 ·refine wk_i ?_ ?_<;>simp only[row_nil,zw,seval,reduceIte,reduceCtorEq]
 simp only[sws_n,swh_n]
 obtain⟨s,B,E,A,M⟩:=s
 dsimp only at hs ⊢
 obtain⟨hs,hp⟩:=hs
 rcases Nat.lt_or_ge s l.length with hlt|hge
 ·obtain⟨e,he⟩:=get_some hlt
  have h4:=inc64 hlt (by omega)
  have h2:=lt_t hlt
  have h2i:decide ((s:Int)<(l.length:Int))=true:=dcT (by omega)
  have hZ:=doRZ (e:=e) hs.right (hD.out e (List.mem_of_getElem? he))
  have hA:=hs.len
  unfold StepF ansRs at hZ
  by_cases hft:fltOf (room,lease,B,E) e=0
  ·have hn:=hs.next he hft
   rw[hft]at hZ
   have hp2:=hide (hp.trans (pk_step he hft))
   have hb1:=hBY.out (doC (room,lease,B,E) e) (right_iff.1 (doC_right (right_iff.2 hs.right)))
   have h56:((A.length+1)*56≤140737488355328)=True:=by rw[eq_iff_iff,iff_true];omega
   replace hp:=hide hp
   generalize hy:doC (room,lease,B,E) e=y at*
   obtain⟨yr,yl,B',E'⟩:=y
   obtain rfl:yr=room:=hn.room
   obtain rfl:yl=lease:=hn.lease
   generalize ansOf (yr,yl,B,E) e=a at*
   obtain⟨ab,am,ag⟩:=a
   dsimp only at hb1 hp2
   have e1:rowF fAns (A++ [(ab,am,ag)])=rowF fAns A++fAns (ab,am,ag):=row_snoc
   have hAl:(rowF fAns A).length=(0+A.length)*3:=by rw[row_len (sz:=3) (fun _=>rfl),Nat.zero_add]
   generalize sumSz B'=n' at*
   replace hA:=hide hA
   replace hn:=hide hn
   replace hs:=hide hs
   replace hy:=hide hy
   replace hft:=hide hft
   replace hlen:=hide hlen
   replace hF0:=hide hF0
   replace hpk:=hide hpk
   replace e1:=hide e1
   obtain⟨kind,at_,dg,ds,key,size⟩:=e
   dsimp only[rAns]at hZ
   refine zs ?_
   repeat'(first|(simp -implicitDefEqProofs only[*,List.getElem?_map,Option.map_some,List.length_map,fEv,zr,seval,reduceIte,reduceCtorEq])|(apply zk<;>intro hc)|(refine zp ?_)|(refine zd ?_)|fail)
   refine gP hZ 2024 1 [.f (.int .i64 yr),.f (.int .i64 yl),.sl 24 1 5 0 B.length,.sl 1024 1 3 0 E.length] [] [aEv (kind,at_,dg,ds,key,size)] ?_
   clear hZ
   repeat'(first|(simp -implicitDefEqProofs only[*,addFp_wr,wrL_3,zr,seval,reduceIte,reduceCtorEq])|(apply zk<;>intro hc)|(refine zp ?_)|(refine zd ?_)|fail)
   refine gG hb1 ⟨fz_so (so_row0 (enc:=fBlob) (fun _=>rfl) rfl rfl rfl),trivial⟩ ?_
   clear hb1
   repeat'(first|(simp -implicitDefEqProofs only[*,addFp_wr,wrL_3,zr,seval,reduceIte,reduceCtorEq])|(apply zk<;>intro hc)|(refine zp ?_)|(refine zd ?_)|fail)
   refine⟨(s+1,B',E',A++ [(ab,am,ag)],max M n'),[(42,24),(1042,1024)],⟨hn.out,hp2.out⟩,by dsimp only;omega,rfl,?_⟩
   dsimp only
   rw[e1.out]
   refine wk_i ?_ ?_<;>simp only[List.length_append,zw,seval,reduceIte,reduceCtorEq]
   rw[show(rowF fAns A).map AV.f++ [AV.f (FV.bool ab),AV.f am,AV.f ag]=(rowF fAns A++fAns (ab,am,ag)).map AV.f by rw[List.map_append];rfl,tl_fs,tl_fs]
   exact SlotsOk.fs rfl
  ·have h5:=hs.stop he hft
   rw[hf.out]at h5
   subst h5
   dsimp only
   rw[if_neg hft]
   generalize fltOf (room,lease,B,E) e=ft at*
   have d5:decide (ft=0)=false:=dcF hft
   generalize ansOf (room,lease,B,E) e=a at*
   generalize (doC (room,lease,B,E) e).2.2.1=B' at*
   generalize (doC (room,lease,B,E) e).2.2.2=E' at*
   obtain⟨ab,am,ag⟩:=a
   replace hA:=hide hA
   replace hs:=hide hs
   replace hp:=hide hp
   replace hlen:=hide hlen
   replace hF0:=hide hF0
   replace hpk:=hide hpk
   obtain⟨kind,at_,dg,ds,key,size⟩:=e
   dsimp only[rAns]at hZ
   replace hft:=hide hft
   refine zs ?_
   repeat'(first|(simp -implicitDefEqProofs only[*,List.getElem?_map,Option.map_some,List.length_map,fEv,zr,seval,reduceIte,reduceCtorEq])|(apply zk<;>intro hc)|(refine zp ?_)|(refine zd ?_)|fail)
   refine gP hZ 2024 1 [.f (.int .i64 room),.f (.int .i64 lease),.sl 24 1 5 0 B.length,.sl 1024 1 3 0 E.length] [] [aEv (kind,at_,dg,ds,key,size)] ?_
   clear hZ
   repeat'(first|(simp -implicitDefEqProofs only[*,addFp_wr,wrL_3,zr,seval,reduceIte,reduceCtorEq])|(apply zk<;>intro hc)|(refine zp ?_)|(refine zd ?_)|fail)
   exact ret_err
 ·obtain rfl:s=l.length:=by have:=hs.le;omega
  have h2:=lt_f hge
  have h2i:decide ((l.length:Int)<(l.length:Int))=false:=dcF (by omega)
  have h5:=hs.end_
  rw[hf.out]at h5
  have hpE:=hp.trans pk_end
  clear hp
  subst h5
  dsimp only
  rw[if_pos rfl,hpE]
  clear hs hD hF0 hf hBY hb hpk hpE hc
  refine ax_weak (nw:=[]) (n:=62) (el:=[(12,.f (.int .i64 l.length)),(11,.f (frAns A)),(10,.f (.int .i64 M)),(1,.f (.fr 6 (l.map fEv))),(9,.ptr 2024 1 0)]) (hl:=[(2024,1,.cells [.f (.int .i64 room),.f (.int .i64 lease),.f (frBlobs B),.f (frEntries E)])]) ?_ ?_
  ·refine wk_i ?_ ?_<;>simp only[so_mf,mapOfH_some,so_ptf,so_cc,so_ff',cellsOf_some,List.drop_zero,List.take_succ_cons,List.take_zero,Nat.zero_add,zw,seval,reduceIte,reduceCtorEq]
   all_goals first
    | exact so_row0 (enc:=fAns) (fun _=>rfl) rfl rfl rfl
    | exact⟨so_row0 (enc:=fBlob) (fun _=>rfl) rfl rfl rfl,so_row0 (enc:=fEntry) (fun _=>rfl) rfl rfl rfl⟩
  refine ax_weak (nw:=[]) (n:=62) (el:=[(12,.f (.int .i64 l.length)),(11,.f (frAns A)),(10,.f (.int .i64 M)),(1,.f (.fr 6 (l.map fEv))),(9,.f (pCache (room,lease,B,E)))]) (hl:=[]) ?_ ?_
  ·refine wk_i ?_ ?_<;>simp only[so_mf,mapOfH_some,so_ptf,so_cc,so_ff',cellsOf_some,List.drop_zero,List.take_succ_cons,List.take_zero,Nat.zero_add,zw,seval,reduceIte,reduceCtorEq]
   exact⟨rfl,_,rfl,Nat.le_refl _,rfl⟩
  refine zs ?_
  repeat'(first|(simp -implicitDefEqProofs only[*,List.length_map,zr,seval,reduceIte,reduceCtorEq])|(apply zk<;>intro hc)|(refine zp ?_)|(refine zd ?_)|fail)
  exact⟨[_,_,_,_],rfl,⟨rfl,rfl,rfl,rfl,rfl⟩,by simp [idsS]⟩
def frR (c:Cache) (l:List Ev):List RS:=if folErr c l=0 then okR (fol c l).1 (fol c l).2.1 (pk (sumSz c.2.2.1) c l)else errR (folErr c l)
theorem followR (c:Cache) (l:List Ev) (hb:SBound c) (hd:∀ e∈l,EvB e):FRet Tryz.prog 26 [aCache c,.f (frEvs l)] (frR c l):=by
 unfold frR
 rcases folErr_cases c l with⟨h1,h2⟩|⟨h1,h2,h3⟩|⟨h1,h2,h3⟩
 ·rw[if_neg (by rw[h2];exact h1),h2];exact fR_bad0 c l hb h1
 ·rw[if_neg (by rw[h3];decide),h3];exact fR_bad1 c l hb h1 h2
 ·rw[h3];exact fR_run c l hb h1 h2 hd
set_option maxHeartbeats 4000000 in
theorem FollowR_no (c:Cache) (l:List Ev) (hb:SBound c) (hd:∀ e∈l,EvB e) (h:folErr c l≠0):FRet Tryz.prog 11 [aCache c,.f (frEvs l)] [zRs2,.c (.v .nil),.c (.v (.int .i64 (folErr c l)))]:=by
 have k1:=followR c l hb hd
 rw[frR,if_neg h]at k1
 have d0:decide (folErr c l=0)=false:=dcF h
 generalize folErr c l=q at*
 replace h:=hide h
 clear hb hd
 obtain⟨room,lease,bl,en⟩:=c
 refine FCall.of_ax low_ref7_Follow ?_
 dsimp only[jm,ji,jf,jl,jL,jn,je,jx,jT,jC,jB,jq,jt,ju,jA,km,kf,kl,kn,kx,l_ref7_Follow,aCache,zRs2,errR]at k1 ⊢
 refine zs ?_
 repeat'(first|(simp -implicitDefEqProofs only[*,addFp_wr,zr,seval,reduceIte,reduceCtorEq])|(apply zk<;>intro hc)|(refine zp ?_)|(refine zd ?_)|(refine cP (k1) ?_)|(refine cD (k1) ?_)|(refine cF (k1) ?_)|fail)
 exact⟨[.agg [.f (.int .i64 0),.f (.int .i64 0),.f .nil,.f .nil],.f .nil,.f (.int .i64 q)],rfl,⟨⟨rfl,rfl,rfl,rfl,rfl⟩,rfl,rfl,rfl⟩,by simp [idsS,idsC]⟩
set_option maxHeartbeats 4000000 in
theorem FollowR_yes (c:Cache) (l:List Ev) (hb:SBound c) (hd:∀ e∈l,EvB e) (h:folErr c l=0):FRet Tryz.prog 11 [aCache c,.f (frEvs l)] [.agg (rcCache (fol c l).1),.c (.v (frAns (fol c l).2.1)),.c (.v (.int .i64 0))]:=by
 have k1:=followR c l hb hd
 rw[frR,if_pos h]at k1
 have d0:decide ((0:Int)=0)=true:=rfl
 generalize pk (sumSz c.2.2.1) c l=m at*
 generalize fol c l=r at*
 obtain⟨⟨xr,xl,B,E⟩,A,ft⟩:=r
 replace h:=hide h
 clear hb hd
 obtain⟨room,lease,bl,en⟩:=c
 refine FCall.of_ax low_ref7_Follow ?_
 dsimp only[jm,ji,jf,jl,jL,jn,je,jx,jT,jC,jB,jq,jt,ju,jA,km,kf,kl,kn,kx,l_ref7_Follow,aCache,rcCache,okR,pCache]at k1 ⊢
 refine zs ?_
 repeat'(first|(simp -implicitDefEqProofs only[*,addFp_wr,zr,seval,reduceIte,reduceCtorEq])|(apply zk<;>intro hc)|(refine zp ?_)|(refine zd ?_)|(refine cP (k1) ?_)|(refine cD (k1) ?_)|(refine cF (k1) ?_)|fail)
 exact⟨[.agg [.f (.int .i64 xr),.f (.int .i64 xl),.f (frBlobs B),.f (frEntries E)],.f (frAns A),.f (.int .i64 0)],rfl,⟨⟨rfl,rfl,rfl,rfl,rfl⟩,rfl,rfl,rfl⟩,by simp [idsS,idsC]⟩
theorem PeakR_f (c:Cache) (l:List Ev) (hb:SBound c) (hd:∀ e∈l,EvB e):FRet Tryz.prog 15 [aCache c,.f (frEvs l)] [.c (.v (.int .i64 (if folErr c l=0 then pk (sumSz c.2.2.1) c l else 0))),.c (.v (.int .i64 (folErr c l)))]:=by
 have k1:=followR c l hb hd
 unfold frR at k1
 by_cases h:folErr c l=0
 ·rw[if_pos h]at k1
  rw[if_pos h,h]
  generalize pk (sumSz c.2.2.1) c l=m at*
  generalize fol c l=r at*
  replace h:=hide h
  clear hb hd
  obtain⟨room,lease,bl,en⟩:=c
  refine FCall.of_ax low_ref7_Peak ?_
  dsimp only[jm,ji,jf,jl,jL,jn,je,jx,jT,jC,jB,jq,jt,ju,jA,km,kf,kl,kn,kx,l_ref7_Peak,aCache,okR]at k1 ⊢
  refine zs ?_
  repeat'(first|(simp -implicitDefEqProofs only[*,addFp_wr,zr,seval,reduceIte,reduceCtorEq])|(apply zk<;>intro hc)|(refine zp ?_)|(refine zd ?_)|(refine cP (k1) ?_)|(refine cD (k1) ?_)|(refine cF (k1) ?_)|fail)
  exact ret_vv
 ·rw[if_neg h]at k1
  rw[if_neg h]
  generalize folErr c l=q at*
  replace h:=hide h
  clear hb hd
  obtain⟨room,lease,bl,en⟩:=c
  refine FCall.of_ax low_ref7_Peak ?_
  dsimp only[jm,ji,jf,jl,jL,jn,je,jx,jT,jC,jB,jq,jt,ju,jA,km,kf,kl,kn,kx,l_ref7_Peak,aCache,errR]at k1 ⊢
  refine zs ?_
  repeat'(first|(simp -implicitDefEqProofs only[*,addFp_wr,zr,seval,reduceIte,reduceCtorEq])|(apply zk<;>intro hc)|(refine zp ?_)|(refine zd ?_)|(refine cP (k1) ?_)|(refine cD (k1) ?_)|(refine cF (k1) ?_)|fail)
  exact ret_vv
def hv:Int→Int→List Ev→List Ans→Int × Int
 | m,d,e::l,a::A=>hv (hm m e) (hd_ d e a) l A
 | m,d,_,_=>(m,d)
theorem ht_hv:∀ {l:List Ev}{c:Cache}{m d:Int},(fol c l).2.2=0→ht m d c l=hv m d l (fol c l).2.1
 | [],c,m,d,_=>rfl
 | e::l,c,m,d,h=>by
  by_cases he:fltOf c e=0
  ·rw[fol_yes he]at h ⊢
   rw[ht,if_pos he]
   exact ht_hv h
  ·rw[fol_no he]at h;exact absurd h he
theorem hv_at {l:List Ev}{A:List Ans}{s:Nat}{e:Ev}{a:Ans}{m d:Int}(he:l[s]? = some e) (ha:A[s]? = some a):hv m d (l.drop s) (A.drop s)=hv (hm m e) (hd_ d e a) (l.drop (s+1)) (A.drop (s+1)):=by
 obtain⟨h1,h2⟩:=List.getElem?_eq_some_iff.1 he
 obtain⟨h3,h4⟩:=List.getElem?_eq_some_iff.1 ha
 rw[List.drop_eq_getElem_cons h1,List.drop_eq_getElem_cons h3,h2,h4];rfl
set_option maxHeartbeats 4000000 in
theorem HitsR_f (c:Cache) (l:List Ev) (hb:SBound c) (hd:∀ e∈l,EvB e):FRet Tryz.prog 13 [aCache c,.f (frEvs l)] [.c (.v (.int .i64 (if folErr c l=0 then(ht 0 0 c l).2 else 0))),.c (.v (.int .i64 (if folErr c l=0 then(ht 0 0 c l).1 else 0))),.c (.v (.int .i64 (folErr c l)))]:=by
 have k1:=followR c l hb hd
 unfold frR at k1
 by_cases h:folErr c l=0
 ·rw[if_pos h]at k1
  rw[if_pos h,if_pos h,h]
  obtain⟨h1,h2,h3⟩:=folErr_zero h
  have hl:=fol_len h3
  rw[ht_hv (m:=0) (d:=0) h3]
  have d0:decide ((0:Int)=0)=true:=rfl
  generalize pk (sumSz c.2.2.1) c l=mm at*
  generalize (fol c l).2.1=A at*
  generalize (fol c l).1=c2 at*
  replace h:=hide h
  have hL:=hide hl
  clear hb hd h1 h3
  obtain⟨room,lease,bl,en⟩:=c
  refine FCall.of_ax low_ref7_Hits ?_
  dsimp only[jm,ji,jf,jl,jL,jn,je,jx,jT,jC,jB,jq,jt,ju,jA,km,kf,kl,kn,kx,l_ref7_Hits,aCache,okR,frEvs,frAns]at k1 ⊢
  refine zs ?_
  repeat'(first|(simp -implicitDefEqProofs only[*,addFp_wr,zr,seval,reduceIte,reduceCtorEq])|(apply zk<;>intro hc)|(refine zp ?_)|(refine zd ?_)|(refine cP (k1) ?_)|(refine cD (k1) ?_)|(refine cF (k1) ?_)|fail)
  clear k1
  refine ax_loopU (S:=Nat × Int × Int) 56 [1,8] [] (fun s=>[(13,.f (.int .i64 s.1)),(12,.f (.int .i64 s.2.1)),(11,.f (.int .i64 s.2.2))]) (fun s=>[]) (fun s=>s.1≤l.length∧(0≤s.2.1∧s.2.1≤s.1)∧(0≤s.2.2∧s.2.2≤s.1)∧hv 0 0 l A=hv s.2.1 s.2.2 (l.drop s.1) (A.drop s.1)) (fun s=>l.length - s.1) ((0,0,0)) [] ?_ ?_ fun s hs=> ?_
  ·exact⟨Nat.zero_le _,⟨by simp,by simp⟩,⟨by simp,by simp⟩,rfl⟩
  ·refine wk_i ?_ ?_<;>simp only[zw,seval,reduceIte,reduceCtorEq]
  obtain⟨s,m,d⟩:=s
  dsimp only at hs ⊢
  obtain⟨hi,⟨hm1,hm2⟩,⟨hd1,hd2⟩,hv1⟩:=hs
  refine zs ?_
  rcases Nat.lt_or_ge s l.length with hlt|hge
  ·obtain⟨e,he⟩:=get_some hlt
   obtain⟨a,ha⟩:=get_some (l:=A) (i:=s) (by omega)
   have h4:=inc64 hlt (by omega)
   have h2':=lt_t hlt
   have hlt2:s<A.length:=by omega
   have h2a:=lt_t hlt2
   have w1:IntKind.i64.wrap (m+1)=m+1:=by rw[wrap64]<;>omega
   have w2:IntKind.i64.wrap (d+1)=d+1:=by rw[wrap64]<;>omega
   have hv2:=hv1.trans (hv_at he ha)
   have hb1:0≤hm m e∧hm m e≤((s+1:Nat):Int):=by unfold hm;split<;>omega
   have hb2:0≤hd_ d e a∧hd_ d e a≤((s+1:Nat):Int):=by unfold hd_;split<;>omega
   clear hm1 hm2 hd1 hd2 hv1 hl
   replace hv2:=hide hv2
   replace hb1:=hide hb1
   replace hb2:=hide hb2
   obtain⟨kind,at_,dg,ds,key,size⟩:=e
   obtain⟨ab,am,ag⟩:=a
   have hM:hm m (kind,at_,dg,ds,key,size)=if (decide (kind=2)||decide (kind=7))=true then m+1 else m:=rfl
   have hDd:hd_ d (kind,at_,dg,ds,key,size) (ab,am,ag)=if ((decide (kind=2)||decide (kind=7))&&ab)=true then d+1 else d:=rfl
   generalize hm m (kind,at_,dg,ds,key,size)=m2 at*
   generalize hd_ d (kind,at_,dg,ds,key,size) (ab,am,ag)=dd2 at*
   cases hk2:decide (kind=2)<;>cases hk7:decide (kind=7)<;>cases ab
   all_goals
    simp only[hk2,hk7,Bool.or_true,Bool.true_or,Bool.or_false,Bool.and_true,Bool.and_false,Bool.false_and,Bool.true_and,if_true,if_false,Bool.false_eq_true]at hM hDd
    subst hM hDd
   repeat'(first|(simp -implicitDefEqProofs only[*,List.getElem?_map,Option.map_some,List.length_map,fEv,fAns,zr,seval,reduceIte,reduceCtorEq])|(apply zk<;>intro hc)|(refine zp ?_)|(refine zd ?_)|fail)
   all_goals
    refine⟨(s+1,_,_),⟨hlt,hb1.out,hb2.out,hv2.out⟩,by dsimp only;omega,?_⟩
    refine wk_i ?_ ?_<;>simp only[zw,seval,reduceIte,reduceCtorEq]
  ·obtain rfl:s=l.length:=by omega
   have h2':=lt_f hge
   have he:hv 0 0 l A=(m,d):=by rw[hv1,List.drop_length];cases A.drop l.length<;>rfl
   rw[he]
   clear hv1 he hm1 hm2 hd1 hd2
   repeat'(first|(simp -implicitDefEqProofs only[*,List.length_map,zr,seval,reduceIte,reduceCtorEq])|(apply zk<;>intro hc)|(refine zp ?_)|(refine zd ?_)|fail)
   exact⟨[_,_,_],rfl,⟨rfl,rfl,rfl,rfl⟩,by simp [idsS]⟩
 ·rw[if_neg h]at k1
  rw[if_neg h,if_neg h]
  have d0:decide (folErr c l=0)=false:=dcF h
  generalize folErr c l=q at*
  replace h:=hide h
  clear hb hd
  obtain⟨room,lease,bl,en⟩:=c
  refine FCall.of_ax low_ref7_Hits ?_
  dsimp only[jm,ji,jf,jl,jL,jn,je,jx,jT,jC,jB,jq,jt,ju,jA,km,kf,kl,kn,kx,l_ref7_Hits,aCache,errR]at k1 ⊢
  refine zs ?_
  repeat'(first|(simp -implicitDefEqProofs only[*,addFp_wr,zr,seval,reduceIte,reduceCtorEq])|(apply zk<;>intro hc)|(refine zp ?_)|(refine zd ?_)|(refine cP (k1) ?_)|(refine cD (k1) ?_)|(refine cF (k1) ?_)|fail)
  exact⟨[_,_,_],rfl,⟨rfl,rfl,rfl,rfl⟩,by simp [idsS]⟩
end Go.Proofs.YtfajjcmagngfiaaGreatDoor
