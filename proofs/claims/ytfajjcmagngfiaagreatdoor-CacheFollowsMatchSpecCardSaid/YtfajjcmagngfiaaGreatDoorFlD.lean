/-
  cache.Peak. No statement of the seat is proved here; no conditions.
-/
import Derived.Test.YtfajjcmagngfiaaGreatDoorFlB
namespace Go.Proofs.YtfajjcmagngfiaaGreatDoor
open Go.RowKit Go.Shelf
set_option linter.unusedVariables false
set_option linter.unusedSimpArgs false
set_option maxRecDepth 100000

theorem folErr_cases (c:Cache) (l:List Ev):(ckCache c≠0∧folErr c l=ckCache c)∨(ckCache c=0∧3000<l.length∧folErr c l=2)∨(ckCache c=0∧l.length≤3000∧folErr c l=(fol c l).2.2):=by
 unfold folErr
 by_cases h0:ckCache c=0
 ·by_cases h1:3000<l.length
  ·exact .inr (.inl ⟨h0,h1,by rw[if_pos h0,if_pos h1]⟩)
  ·exact .inr (.inr ⟨h0,by omega,by rw[if_pos h0,if_neg h1]⟩)
 ·exact .inl ⟨h0,by rw[if_neg h0]⟩
theorem folErr_zero {c:Cache}{l:List Ev}(h:folErr c l=0):ckCache c=0∧l.length≤3000∧(fol c l).2.2=0:=by
 rcases folErr_cases c l with⟨h1,h2⟩|⟨h1,h2,h3⟩|⟨h1,h2,h3⟩
 ·exact absurd (h2.symm.trans h) h1
 ·rw[h]at h3;cases h3
 ·exact⟨h1,h2,h3.symm.trans h⟩
theorem args_fol {id ver g:Nat}{cs:List AV}{pcs pcs':List RC}{c1 c2 c3 c4 x:FV} : ArgsOk [⟨id,ver,cs,pcs,pcs'⟩] [.agg [.f c1,.f c2,.f c3,.f c4],.f x,.clo (.func g) [.ptr id ver 0]] [.agg [.f c1,.f c2,.f c3,.f c4],.f x,.clo (.func g) [.ptr 100001 1 0]]:=
 ⟨.inl (.inr (.inl ⟨rfl,rfl⟩)),.inl (.inr (.inl ⟨rfl,rfl⟩)),.inr (.inr ⟨_,_,_,rfl,rfl,.inr (.inr ⟨0,_,rfl,rfl,rfl⟩),trivial⟩),trivial⟩
set_option maxHeartbeats 4000000 in
theorem Follow_err (c:Cache) (l:List Ev) (hb:CBound c) (hd:∀ e∈l,(e.2.2.2.1.length:Int)≤9223372036854775807) (h:folErr c l≠0):FRet Tryz.prog 10 [aCache c,.f (frEvs l)] [zRs2,.c (.v .nil),.c (.v (.int .i64 (folErr c l)))]:=by
 have key:∃ A:List Ans,FRetX1 Tryz.prog 24 [aCache c,.f (frEvs l),.clo (.func 25) [.ptr 100001 1 0]] [.own 3 0 []] [.own 3 A.length (rowF fAns A)] [zRs2,.c (.v (.int .i64 (folErr c l)))]:=by
  rcases folErr_cases c l with⟨h1,h2⟩|⟨h1,h2,h3⟩|⟨h1,h2,h3⟩
  ·rw[h2];exact⟨[],follow_bad0 c l hb h1⟩
  ·rw[h3];exact⟨[],follow_bad1 c l hb h1 h2⟩
  ·have:=follow_run c l hb h1 h2 hd
   rw[folRs,if_neg (by rw[← h3];exact h),← h3]at this
   exact⟨_,this⟩
 obtain⟨A,k1⟩:=key
 generalize folErr c l=q at*
 have d0:decide (q=0)=false:=dcF h
 replace h:=hide h
 replace hb:=hide hb
 replace hd:=hide hd
 obtain⟨room,lease,bl,en⟩:=c
 refine FCall.of_ax low_cache_Follow ?_
 dsimp only[jm,ji,jf,jl,jL,jn,je,jx,jT,jC,jB,jq,jt,ju,jA,km,kf,kl,kn,kx,l_cache_Follow,aCache,zRs2]at k1 ⊢
 refine zs ?_
 repeat'(first|(simp -implicitDefEqProofs only[*,addFp_wr,zr,seval,reduceIte,reduceCtorEq])|(apply zk<;>intro hc)|(refine zp ?_)|(refine zd ?_)|fail)
 refine callX1 (m:=300) rfl k1 7 1 [.f .nil] (.inl ⟨rfl,args_fol⟩) (by rfl) (by simp) ⟨.inl ⟨rfl,rfl,rfl⟩,rfl⟩ (by simp [idsC]) (by simp [idsC]) (by repeat (first|exact free_0|exact free_mk (by simp)|refine free_upd rfl ?_|refine free_kill ?_)) ?_
 clear k1
 repeat'(first|(simp -implicitDefEqProofs only[*,addFp_wr,zr,seval,reduceIte,reduceCtorEq])|(apply zk<;>intro hc)|(refine zp ?_)|(refine zd ?_)|fail)
 exact⟨[.agg [.f (.int .i64 0),.f (.int .i64 0),.f .nil,.f .nil],.f .nil,.f (.int .i64 q)],rfl,⟨⟨rfl,rfl,rfl,rfl,rfl⟩,rfl,rfl,rfl⟩,by simp [idsS,idsC]⟩
set_option maxHeartbeats 4000000 in
theorem Follow_yes (c:Cache) (l:List Ev) (hb:CBound c) (hd:∀ e∈l,(e.2.2.2.1.length:Int)≤9223372036854775807) (h:folErr c l=0):FRet Tryz.prog 10 [aCache c,.f (frEvs l)] [.agg (rcCache (fol c l).1),.c (.v (frAns (fol c l).2.1)),.c (.v (.int .i64 0))]:=by
 obtain⟨h1,h2,h3⟩:=folErr_zero h
 have k1:=follow_run c l hb h1 h2 hd
 rw[folRs,if_pos h3]at k1
 have d0:decide ((0:Int)=0)=true:=rfl
 generalize fol c l=r at*
 obtain⟨⟨xr,xl,B,E⟩,A,ft⟩:=r
 clear h h1 h2 h3 hb hd
 have hown:FRet Tryz.prog 10 [aCache c,.f (frEvs l)] [.agg [.v (.int .i64 xr),.v (.int .i64 xl),.own 5 B.length (rowF fBlob B),.own 3 E.length (rowF fEntry E)],.c (.own 3 A.length (rowF fAns A)),.c (.v (.int .i64 0))]:=by
  obtain⟨room,lease,bl,en⟩:=c
  refine FCall.of_ax low_cache_Follow ?_
  dsimp only[jm,ji,jf,jl,jL,jn,je,jx,jT,jC,jB,jq,jt,ju,jA,km,kf,kl,kn,kx,l_cache_Follow,aCache]at k1 ⊢
  refine zs ?_
  repeat'(first|(simp -implicitDefEqProofs only[*,addFp_wr,zr,seval,reduceIte,reduceCtorEq])|(apply zk<;>intro hc)|(refine zp ?_)|(refine zd ?_)|fail)
  refine callX1 (m:=300) rfl k1 7 1 [.f .nil] (.inl ⟨rfl,args_fol⟩) (by rfl) (by simp) ⟨.inl ⟨rfl,rfl,rfl⟩,rfl⟩ (by simp [idsC]) (by simp [idsC]) (by repeat (first|exact free_0|exact free_mk (by simp)|refine free_upd rfl ?_|refine free_kill ?_)) ?_
  clear k1
  repeat'(first|(simp -implicitDefEqProofs only[*,addFp_wr,zr,seval,reduceIte,reduceCtorEq])|(apply zk<;>intro hc)|(refine zp ?_)|(refine zd ?_)|fail)
  exact⟨[.agg [.f (.int .i64 xr),.f (.int .i64 xl),.sl 1013 1 5 0 B.length,.sl 2013 1 3 0 E.length],.sl 13 1 3 0 A.length,.f (.int .i64 0)],rfl,⟨⟨rfl,rfl,.inr ⟨1013,1,rfl,rfl,lenB rfl⟩,.inr ⟨2013,1,rfl,rfl,lenE rfl⟩,rfl⟩,.inr ⟨13,1,rfl,rfl,lenA rfl⟩,rfl,rfl⟩,by simp [idsS,idsC]⟩
 exact hown.frz2 ⟨⟨rfl,rfl,rcF_row0 (enc:=fBlob) (fun _=>rfl),rcF_row0 (enc:=fEntry) (fun _=>rfl),trivial⟩,rcF_row0 (enc:=fAns) (fun _=>rfl),rfl,trivial⟩
abbrev any3:AV:= .agg [.any,.any,.any]
theorem peakC_f (x:Cache) (m:Int) (hx:CRight x) :
  FRetX1 Tryz.prog 29 [aCache x,any6,any3,.ptr 100001 1 0] [.v (.int .i64 m)] [.v (.int .i64 (max m (sumSz x.2.2.1)))] []:=by
 have hU:=used_f x (by have:=hx.blen;omega)
 rw[(cok_of (right_iff.2 hx)).wsum]at hU
 obtain⟨room,lease,bl,en⟩:=x
 dsimp only at hU ⊢
 clear hx
 generalize sumSz bl=n at*
 refine FCall.of_ax low_cache_Peak_c1 ?_
 dsimp only[jm,ji,jf,jl,jL,jn,je,jx,jT,jC,jB,jq,jt,ju,jA,km,kf,kl,kn,kx,l_cache_Peak_c1,aCache]at hU ⊢
 refine zs ?_
 repeat'(first|(simp -implicitDefEqProofs only[*,addFp_wr,zr,seval,reduceIte,reduceCtorEq])|(apply zk<;>intro hc)|(refine zp ?_)|(refine zd ?_)|(refine cP (hU) ?_)|(refine cD (hU) ?_)|(refine cF (hU) ?_)|(refine cO (hU) ?_)|fail)
 exact⟨[],[.f (.int .i64 (max m n))],rfl,rfl,⟨rfl,rfl⟩,rfl,by simp [idsC,idsS],by simp [idsC,idsS]⟩
theorem pk_step {M:Int}{x:Cache}{l:List Ev}{s:Nat}{e:Ev}(he:l[s]? = some e) (h:fltOf x e=0):pk M x (l.drop s)=pk (max M (sumSz (doC x e).2.2.1)) (doC x e) (l.drop (s+1)):=by
 rw[fol_drop he,pk,if_pos h]
theorem pk_stop {M:Int}{x:Cache}{l:List Ev}{s:Nat}{e:Ev}(he:l[s]? = some e) (h:fltOf x e≠0):pk M x (l.drop s)=M:=by
 rw[fol_drop he,pk,if_neg h]
theorem pk_end {M:Int}{x:Cache}{l:List Ev} : pk M x (l.drop l.length)=M:=by rw[List.drop_length];rfl
theorem fzT_agg {H Ht:Heap} : ∀ {l:List FV},FzOkT H Ht (.agg (l.map .f)) (.agg (l.map .f)):= .inl (by rw[so_aa];exact SlotsOk.fs rfl)
theorem fzT_ptr {H Ht:Heap}{id ver off:Nat}(h1:ver=(H id).1) (h2:ver=(Ht id).1) (h3:(H id).2.isSome=true) (h4:(Ht id).2.isSome=true):FzOkT H Ht (.ptr id ver off) (.ptr id ver off):= .inl (by rw[so_pp];exact⟨rfl,rfl,h1,h2,by simp,h3,h4⟩)
theorem fzT_cache {H Ht:Heap}{i1 v1 i2 v2:Nat}{room lease:Int}{bl:List Blob}{en:List Entry}(h1:cellsOf v1 (H i1)=some ((rowF fBlob bl).map .f)) (h2:cellsOf v2 (H i2)=some ((rowF fEntry en).map .f)) (h3:(Ht i1).2=none) (h4:(Ht i2).2=none):FzOkT H Ht (.agg [.f (.int .i64 room),.f (.int .i64 lease),.sl i1 v1 5 0 bl.length,.sl i2 v2 3 0 en.length]) (aCache (room,lease,bl,en)):=by
 refine .inl ?_
 dsimp only[aCache]
 rw[so_aa,so_cons,so_cons,so_cons,so_cons,so_nil]
 exact⟨so_f,so_f,so_row0 (enc:=fBlob) (fun _=>rfl) h3 h1 rfl,so_row0 (enc:=fEntry) (fun _=>rfl) h4 h2 rfl,trivial⟩
theorem argsX2 {id ver:Nat}{cs:List AV}{pcs pcs':List RC}{c1 c2 c3 c4 e1 e2 e3 e4 e5 e6 a1 a2 a3:FV} : ArgsOk [⟨id,ver,cs,pcs,pcs'⟩] [.agg [.f c1,.f c2,.f c3,.f c4],.agg [.f e1,.f e2,.f e3,.f e4,.f e5,.f e6],.agg [.f a1,.f a2,.f a3],.ptr id ver 0] [.agg [.f c1,.f c2,.f c3,.f c4],any6,any3,.ptr 100001 1 0]:=
 ⟨.inl (.inr (.inl ⟨rfl,rfl⟩)),.inr (.inl ⟨_,_,rfl,rfl,.inl rfl,.inl rfl,.inl rfl,.inl rfl,.inl rfl,.inl rfl,trivial⟩),.inr (.inl ⟨_,_,rfl,rfl,.inl rfl,.inl rfl,.inl rfl,trivial⟩),.inl (.inr (.inr ⟨0,_,rfl,rfl,rfl⟩)),trivial⟩
set_option maxHeartbeats 4000000 in
theorem peak_bad0 (c:Cache) (l:List Ev) (hb:CBound c) (hk:ckCache c≠0) (m0:Int):FRetX1 Tryz.prog 24 [aCache c,.f (frEvs l),.clo (.func 29) [.ptr 100001 1 0]] [.v (.int .i64 m0)] [.v (.int .i64 m0)] [zRs2,.c (.v (.int .i64 (ckCache c)))]:=by
 have hc:=CheckCache_f isDigest_f c hb
 generalize ckCache c=q at*
 have d0:decide (q=0)=false:=dcF hk
 replace hk:=hide hk
 replace hb:=hide hb
 obtain⟨room,lease,bl,en⟩:=c
 refine FCall.of_ax low_cache_follow ?_
 dsimp only[jm,ji,jf,jl,jL,jn,je,jx,jT,jC,jB,jq,jt,ju,jA,km,kf,kl,kn,kx,l_cache_follow,aCache,frEvs]at hc ⊢
 refine zs ?_
 repeat'(first|(simp -implicitDefEqProofs only[*,addFp_wr,zr,seval,reduceIte,reduceCtorEq])|(apply zk<;>intro hc)|(refine zp ?_)|(refine zd ?_)|(refine cP (hc) ?_)|(refine cD (hc) ?_)|(refine cF (hc) ?_)|(refine cO (hc) ?_)|fail)
 exact⟨[.agg [.f (.int .i64 0),.f (.int .i64 0),.f .nil,.f .nil],.f (.int .i64 _)],[.f (.int .i64 m0)],rfl,rfl,⟨rfl,rfl⟩,⟨⟨rfl,rfl,rfl,rfl,rfl⟩,rfl,rfl⟩,by simp [idsC,idsS],by simp [idsC,idsS]⟩
set_option maxHeartbeats 4000000 in
theorem peak_bad1 (c:Cache) (l:List Ev) (hb:CBound c) (hk:ckCache c=0) (hlen:3000<l.length) (m0:Int):FRetX1 Tryz.prog 24 [aCache c,.f (frEvs l),.clo (.func 29) [.ptr 100001 1 0]] [.v (.int .i64 m0)] [.v (.int .i64 m0)] [zRs2,.c (.v (.int .i64 (2)))]:=by
 have hc:=CheckCache_f isDigest_f c hb
 rw[hk]at hc
 have d0:decide ((0:Int)=0)=true:=rfl
 have dl:decide ((3000:Int)<(l.length:Int))=true:=dcT (by omega)
 have dl2:decide ((l.length:Int) > 3000)=true:=dl
 clear hk hlen
 replace hb:=hide hb
 obtain⟨room,lease,bl,en⟩:=c
 refine FCall.of_ax low_cache_follow ?_
 dsimp only[jm,ji,jf,jl,jL,jn,je,jx,jT,jC,jB,jq,jt,ju,jA,km,kf,kl,kn,kx,l_cache_follow,aCache,frEvs]at hc ⊢
 refine zs ?_
 repeat'(first|(simp -implicitDefEqProofs only[*,addFp_wr,zr,seval,reduceIte,reduceCtorEq])|(apply zk<;>intro hc)|(refine zp ?_)|(refine zd ?_)|(refine cP (hc) ?_)|(refine cD (hc) ?_)|(refine cF (hc) ?_)|(refine cO (hc) ?_)|fail)
 exact⟨[.agg [.f (.int .i64 0),.f (.int .i64 0),.f .nil,.f .nil],.f (.int .i64 _)],[.f (.int .i64 m0)],rfl,rfl,⟨rfl,rfl⟩,⟨⟨rfl,rfl,rfl,rfl,rfl⟩,rfl,rfl⟩,by simp [idsC,idsS],by simp [idsC,idsS]⟩
set_option maxHeartbeats 8000000 in
theorem peak_run (c:Cache) (l:List Ev) (hb:CBound c) (hk:ckCache c=0) (hlen:l.length≤3000) (hd:∀ e∈l,(e.2.2.2.1.length:Int)≤9223372036854775807) (m0:Int) :
  FRetX1 Tryz.prog 24 [aCache c,.f (frEvs l),.clo (.func 29) [.ptr 100001 1 0]] [.v (.int .i64 m0)] [.v (.int .i64 (pk m0 c l))] (folRs (fol c l)):=by
 have hR:=right_iff.1 hk
 have hc:=CheckCache_f isDigest_f c hb
 have hO:=own_f c (by have:=hR.blen;omega) (by have:=hR.elen;omega) (fun x hx=>by have:=ckDigs_len (entOk_iff.1 (hR.eok x hx)).2.1;omega)
 rw[hk]at hc
 have d0:decide ((0:Int)=0)=true:=rfl
 have dl:decide ((3000:Int)<(l.length:Int))=false:=dcF (by omega)
 have dl2:decide ((l.length:Int) > 3000)=false:=dl
 have hF0:=folAt_0 (l:=l) hR
 have hD:=hide hd
 replace hb:=hide hb
 clear hd hk hR
 obtain⟨room,lease,bl,en⟩:=c
 generalize hf:fol (room,lease,bl,en) l=r at*
 replace hf:=hide hf
 refine FCall.of_ax low_cache_follow ?_
 dsimp only[jm,ji,jf,jl,jL,jn,je,jx,jT,jC,jB,jq,jt,ju,jA,km,kf,kl,kn,kx,l_cache_follow,aCache,frEvs]at hc hO ⊢
 refine zs ?_
 repeat'(first|(simp -implicitDefEqProofs only[*,addFp_wr,zr,seval,reduceIte,reduceCtorEq])|(apply zk<;>intro hc)|(refine zp ?_)|(refine zd ?_)|(refine cP (hc) ?_)|(refine cD (hc) ?_)|(refine cF (hc) ?_)|(refine cO (hc) ?_)|(refine cP (hO) ?_)|(refine cD (hO) ?_)|(refine cF (hO) ?_)|(refine cO (hO) ?_)|fail)
 refine ax_loopW (S:=Nat × List Blob × List Entry × List Ans × Int) 47 [2,3,6,25,26] [6] (fun s=>[(27,.f (.int .i64 s.1))]) (fun s=>[(3,1,AObj.cells [.f (.int .i64 room),.f (.int .i64 lease),.sl 24 1 5 0 s.2.1.length,.sl 1024 1 3 0 s.2.2.1.length]),(24,1,AObj.cells ((rowF fBlob s.2.1).map AV.f)),(1024,1,AObj.cells ((rowF fEntry s.2.2.1).map AV.f)),(100001,1,AObj.cells [.f (.int .i64 s.2.2.2.2)])]) (fun s=>FolAt (room,lease,bl,en) l s.1 (room,lease,s.2.1,s.2.2.1) s.2.2.2.1∧pk m0 (room,lease,bl,en) l=pk s.2.2.2.2 (room,lease,s.2.1,s.2.2.1) (l.drop s.1)) (fun s=>l.length - s.1) ((0,bl,en,[],m0)) [] [] ?_ rfl ?_ fun s hs=> ?_
 ·exact⟨hF0,rfl⟩
 ·refine wk_i ?_ ?_<;>simp only[so_cl2,zw,seval,reduceIte,reduceCtorEq]
 simp only[sws_n,swh_n]
 obtain⟨s,B,E,A,M⟩:=s
 dsimp only at hs ⊢
 obtain⟨hs,hp⟩:=hs
 refine zs ?_
 rcases Nat.lt_or_ge s l.length with hlt|hge
 ·obtain⟨e,he⟩:=get_some hlt
  have h4:=inc64 hlt (by omega)
  have h2:=lt_t hlt
  have h2i:decide ((s:Int)<(l.length:Int))=true:=dcT (by omega)
  have hZ:=doZ (e:=e) hs.right (hD.out e (List.mem_of_getElem? he))
  have hA:=hs.len
  by_cases hft:fltOf (room,lease,B,E) e=0
  ·have hn:=hs.next he hft
   rw[hft]at hZ
   have hp2:=hide (hp.trans (pk_step he hft))
   have hCl:=peakC_f (doC (room,lease,B,E) e) M (right_iff.1 (doC_right (right_iff.2 hs.right)))
   replace hp:=hide hp
   generalize hy:doC (room,lease,B,E) e=y at*
   obtain⟨yr,yl,B',E'⟩:=y
   obtain rfl:yr=room:=hn.room
   obtain rfl:yl=lease:=hn.lease
   generalize ansOf (yr,yl,B,E) e=a at*
   obtain⟨ab,am,ag⟩:=a
   replace hA:=hide hA
   replace hn:=hide hn
   replace hs:=hide hs
   replace hy:=hide hy
   replace hft:=hide hft
   replace hlen:=hide hlen
   replace hF0:=hide hF0
   obtain⟨kind,at_,dg,ds,key,size⟩:=e
   dsimp only[rAns]at hZ
   repeat'(first|(simp -implicitDefEqProofs only[*,List.getElem?_map,Option.map_some,fEv,zr,seval,reduceIte,reduceCtorEq])|(apply zk<;>intro hc)|(refine zp ?_)|(refine zd ?_)|fail)
   refine gP hZ 3 1 [.f (.int .i64 yr),.f (.int .i64 yl),.sl 24 1 5 0 B.length,.sl 1024 1 3 0 E.length] [] [aEv (kind,at_,dg,ds,key,size)] ?_
   clear hZ
   repeat'(first|(simp -implicitDefEqProofs only[*,addFp_wr,zr,seval,reduceIte,reduceCtorEq])|(apply zk<;>intro hc)|(refine zp ?_)|(refine zd ?_)|fail)
   refine callX1z (m:=300) rfl hCl 100001 1 [.f (.int .i64 M)] [aCache (yr,yl,B',E'),.agg [.f (.int .i64 kind),.f (.int .i64 at_),.f (.str dg),.f (frStrs ds),.f (.str key),.f (.int .i64 size)],.agg [.f (.bool ab),.f am,.f ag],.ptr 100001 1 0] (.inr ⟨[.ptr 100001 1 0],rfl,fzT_cache rfl rfl rfl rfl,fzT_agg (l:=[.int .i64 kind,.int .i64 at_,.str dg,frStrs ds,.str key,.int .i64 size]),fzT_agg (l:=[.bool ab,am,ag]),fzT_ptr rfl rfl rfl rfl,trivial⟩) argsX2 rfl (by rfl) (by simp) ⟨rfl,rfl⟩ (by simp [idsC]) (by simp [idsC]) (by repeat (first|exact free_0|exact free_mk (by simp)|refine free_upd rfl ?_|refine free_kill ?_)) ?_
   clear hCl
   repeat'(first|(simp -implicitDefEqProofs only[*,zr,seval,reduceIte,reduceCtorEq])|(apply zk<;>intro hc)|(refine zp ?_)|(refine zd ?_)|fail)
   refine⟨(s+1,B',E',A++ [(ab,am,ag)],max M (sumSz B')),[(33,24),(1033,1024)],⟨hn.out,hp2.out⟩,by dsimp only;omega,rfl,?_⟩
   refine wk_i ?_ ?_<;>simp only[so_cl2,zw,seval,reduceIte,reduceCtorEq]
  ·have h5:=hs.stop he hft
   rw[hf.out]at h5
   have hpE:=hide (hp.trans (pk_stop he hft))
   clear hp
   generalize fltOf (room,lease,B,E) e=ft at*
   have d5:decide (ft=0)=false:=dcF hft
   subst h5
   generalize ansOf (room,lease,B,E) e=a at*
   generalize (doC (room,lease,B,E) e).2.2.1=B' at*
   generalize (doC (room,lease,B,E) e).2.2.2=E' at*
   obtain⟨ab,am,ag⟩:=a
   replace hA:=hide hA
   replace hs:=hide hs
   replace hlen:=hide hlen
   replace hF0:=hide hF0
   obtain⟨kind,at_,dg,ds,key,size⟩:=e
   dsimp only[rAns]at hZ
   rw[folRs,if_neg hft]
   replace hft:=hide hft
   repeat'(first|(simp -implicitDefEqProofs only[*,List.getElem?_map,Option.map_some,fEv,zr,seval,reduceIte,reduceCtorEq])|(apply zk<;>intro hc)|(refine zp ?_)|(refine zd ?_)|fail)
   refine gP hZ 3 1 [.f (.int .i64 room),.f (.int .i64 lease),.sl 24 1 5 0 B.length,.sl 1024 1 3 0 E.length] [] [aEv (kind,at_,dg,ds,key,size)] ?_
   clear hZ
   repeat'(first|(simp -implicitDefEqProofs only[*,addFp_wr,zr,seval,reduceIte,reduceCtorEq])|(apply zk<;>intro hc)|(refine zp ?_)|(refine zd ?_)|fail)
   exact⟨[.agg [.f (.int .i64 0),.f (.int .i64 0),.f .nil,.f .nil],.f (.int .i64 ft)],[.f (.int .i64 M)],rfl,rfl,⟨by rw[hpE.out];rfl,rfl⟩,⟨⟨rfl,rfl,rfl,rfl,rfl⟩,rfl,rfl⟩,by simp [idsC,idsS],by simp [idsC,idsS]⟩
 ·obtain rfl:s=l.length:=by have:=hs.le;omega
  have h2:=lt_f hge
  have h2i:decide ((l.length:Int)<(l.length:Int))=false:=dcF (by omega)
  have h5:=hs.end_
  rw[hf.out]at h5
  have hpE:=hide (hp.trans pk_end)
  clear hp
  subst h5
  rw[folRs,if_pos rfl]
  clear hs hD hF0
  repeat'(first|(simp -implicitDefEqProofs only[*,zr,seval,reduceIte,reduceCtorEq])|(apply zk<;>intro hc)|(refine zp ?_)|(refine zd ?_)|fail)
  exact⟨[.agg [.f (.int .i64 room),.f (.int .i64 lease),.sl 24 1 5 0 B.length,.sl 1024 1 3 0 E.length],.f (.int .i64 0)],[.f (.int .i64 M)],rfl,rfl,⟨by rw[hpE.out];rfl,rfl⟩,⟨⟨rfl,rfl,.inr ⟨24,1,rfl,rfl,lenB rfl⟩,.inr ⟨1024,1,rfl,rfl,lenE rfl⟩,rfl⟩,rfl,rfl⟩,by simp [idsC,idsS],by simp [idsC,idsS]⟩
end Go.Proofs.YtfajjcmagngfiaaGreatDoor
