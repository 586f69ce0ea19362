/-
  cache.Hits. No statement of the seat is proved here; no conditions.
-/
import Derived.Test.YtfajjcmagngfiaaGreatDoorFlD
namespace Go.Proofs.YtfajjcmagngfiaaGreatDoor
open Go.RowKit Go.Shelf
set_option linter.unusedVariables false
set_option linter.unusedSimpArgs false
set_option maxRecDepth 100000

def hitB (e:Ev):Bool:=decide (e.1=2)||decide (e.1=7)
def hm (m:Int) (e:Ev):Int:=if hitB e then m+1 else m
def hd_ (d:Int) (e:Ev) (a:Ans):Int:=if hitB e&&a.1 then d+1 else d
def ht:Int→Int→Cache→List Ev→Int × Int
 | m,d,c,[]=>(m,d)
 | m,d,c,e::l=>if fltOf c e=0 then ht (hm m e) (hd_ d e (ansOf c e)) (doC c e) l else(m,d)
theorem ht_step {m d:Int}{x:Cache}{l:List Ev}{s:Nat}{e:Ev}(he:l[s]? = some e) (h:fltOf x e=0):ht m d x (l.drop s)=ht (hm m e) (hd_ d e (ansOf x e)) (doC x e) (l.drop (s+1)):=by
 rw[fol_drop he,ht,if_pos h]
theorem ht_stop {m d:Int}{x:Cache}{l:List Ev}{s:Nat}{e:Ev}(he:l[s]? = some e) (h:fltOf x e≠0):ht m d x (l.drop s)=(m,d):=by
 rw[fol_drop he,ht,if_neg h]
theorem ht_end {m d:Int}{x:Cache}{l:List Ev} : ht m d x (l.drop l.length)=(m,d):=by rw[List.drop_length];rfl
structure HtAt (r:Int × Int) (x:Cache) (l:List Ev) (s:Nat) (m d:Int):Prop where
 is:r=ht m d x l
 m1:0≤m
 m2:m≤s
 d1:0≤d
 d2:d≤s
theorem HtAt.next {r:Int × Int}{x y:Cache}{l l':List Ev}{s:Nat}{m d:Int}{e:Ev}{a:Ans}(h:HtAt r x l s m d) (hn:ht m d x l=ht (hm m e) (hd_ d e a) y l'):HtAt r y l' (s+1) (hm m e) (hd_ d e a):=by
 obtain⟨h1,h2,h3,h4,h5⟩:=h
 refine⟨h1.trans hn,?_,?_,?_,?_⟩
 ·unfold hm;split<;>omega
 ·unfold hm;split<;>omega
 ·unfold hd_;split<;>omega
 ·unfold hd_;split<;>omega
theorem hitsC_f (e:Ev) (a:Ans) (m d:Int) (hm1:0≤m∧m≤1000000) (hd1:0≤d∧d≤1000000) :
  FRetX2 Tryz.prog 27 [any4,.agg ([.int .i64 e.1,.int .i64 e.2.1,.str e.2.2.1,frStrs e.2.2.2.1,.str e.2.2.2.2.1,.int .i64 e.2.2.2.2.2].map AV.f),.agg ([FV.bool a.1,a.2.1,a.2.2].map AV.f),.ptr 100001 1 0,.ptr 100002 1 0] [.v (.int .i64 m)] [.v (.int .i64 d)] [.v (.int .i64 (hm m e))] [.v (.int .i64 (hd_ d e a))] []:=by
 obtain⟨kind,at_,dg,ds,key,size⟩:=e
 obtain⟨b,x,g⟩:=a
 have w1:IntKind.i64.wrap (m+1)=m+1:=by rw[wrap64]<;>omega
 have w2:IntKind.i64.wrap (d+1)=d+1:=by rw[wrap64]<;>omega
 unfold hm hd_ hitB
 dsimp only
 clear hm1 hd1
 refine FCall.of_ax low_cache_Hits_c1 ?_
 dsimp only[jm,ji,jf,jl,jL,jn,je,jx,jT,jC,jB,jq,jt,ju,jA,km,kf,kl,kn,kx,l_cache_Hits_c1,List.map_cons,List.map_nil]
 cases h2:decide (kind=2)<;>cases h7:decide (kind=7)<;>cases b
 all_goals
  refine zs ?_
 repeat'(first|(simp -implicitDefEqProofs only[*,addFp_wr,zr,seval,reduceIte,reduceCtorEq])|(apply zk<;>intro hc)|(refine zp ?_)|(refine zd ?_)|fail)
 all_goals exact⟨[],[.f (.int .i64 _)],[.f (.int .i64 _)],rfl,rfl,rfl,⟨rfl,rfl⟩,⟨rfl,rfl⟩,rfl,by simp [idsC,idsS],by simp [idsC,idsS],by simp [idsC,idsS]⟩
theorem argsX3 {i1 v1 i2 v2:Nat}{cs1 cs2:List AV}{p1 p1' p2 p2':List RC}{c1 c2 c3 c4:AV}{es a:List FV} : ArgsOk [⟨i1,v1,cs1,p1,p1'⟩,⟨i2,v2,cs2,p2,p2'⟩] [.agg [c1,c2,c3,c4],.agg (es.map .f),.agg (a.map .f),.ptr i1 v1 0,.ptr i2 v2 0] [any4,.agg (es.map .f),.agg (a.map .f),.ptr 100001 1 0,.ptr 100002 1 0]:=by
 have hp:∀ l:List FV,(AV.agg (l.map .f)).pure=true:=fun l=>by
  rw[AV.pure,AV.pureL_all,List.all_eq_true]
  intro x hx
  obtain⟨y,_,rfl⟩:=List.mem_map.1 hx
  rfl
 exact⟨.inr (.inl ⟨_,_,rfl,rfl,.inl rfl,.inl rfl,.inl rfl,.inl rfl,trivial⟩),.inl (.inr (.inl ⟨rfl,hp es⟩)),.inl (.inr (.inl ⟨rfl,hp a⟩)),.inl (.inr (.inr ⟨0,_,rfl,rfl,rfl⟩)),.inl (.inr (.inr ⟨1,_,rfl,rfl,rfl⟩)),trivial⟩
set_option maxHeartbeats 4000000 in
theorem hit_bad0 (c:Cache) (l:List Ev) (hb:CBound c) (hk:ckCache c≠0):FRetX2 Tryz.prog 24 [aCache c,.f (frEvs l),.clo (.func 27) [.ptr 100001 1 0,.ptr 100002 1 0]] [.v (.int .i64 0)] [.v (.int .i64 0)] [.v (.int .i64 0)] [.v (.int .i64 0)] [zRs2,.c (.v (.int .i64 (ckCache c)))]:=by
 have hc:=CheckCache_f isDigest_f c hb
 generalize ckCache c=q at*
 have d0:decide (q=0)=false:=dcF hk
 replace hk:=hide hk
 replace hb:=hide hb
 obtain⟨room,lease,bl,en⟩:=c
 refine FCall.of_ax low_cache_follow ?_
 dsimp only[jm,ji,jf,jl,jL,jn,je,jx,jT,jC,jB,jq,jt,ju,jA,km,kf,kl,kn,kx,l_cache_follow,aCache,frEvs]at hc ⊢
 refine zs ?_
 repeat'(first|(simp -implicitDefEqProofs only[*,addFp_wr,zr,seval,reduceIte,reduceCtorEq])|(apply zk<;>intro hc)|(refine zp ?_)|(refine zd ?_)|(refine cP (hc) ?_)|(refine cD (hc) ?_)|(refine cF (hc) ?_)|fail)
 exact⟨[.agg [.f (.int .i64 0),.f (.int .i64 0),.f .nil,.f .nil],.f (.int .i64 _)],[.f (.int .i64 0)],[.f (.int .i64 0)],rfl,rfl,rfl,⟨rfl,rfl⟩,⟨rfl,rfl⟩,⟨⟨rfl,rfl,rfl,rfl,rfl⟩,rfl,rfl⟩,by simp [idsC,idsS],by simp [idsC,idsS],by simp [idsC,idsS]⟩
set_option maxHeartbeats 4000000 in
theorem hit_bad1 (c:Cache) (l:List Ev) (hb:CBound c) (hk:ckCache c=0) (hlen:3000<l.length):FRetX2 Tryz.prog 24 [aCache c,.f (frEvs l),.clo (.func 27) [.ptr 100001 1 0,.ptr 100002 1 0]] [.v (.int .i64 0)] [.v (.int .i64 0)] [.v (.int .i64 0)] [.v (.int .i64 0)] [zRs2,.c (.v (.int .i64 (2)))]:=by
 have hc:=CheckCache_f isDigest_f c hb
 rw[hk]at hc
 have d0:decide ((0:Int)=0)=true:=rfl
 have dl:decide ((3000:Int)<(l.length:Int))=true:=dcT (by omega)
 have dl2:decide ((l.length:Int) > 3000)=true:=dl
 clear hk hlen
 replace hb:=hide hb
 obtain⟨room,lease,bl,en⟩:=c
 refine FCall.of_ax low_cache_follow ?_
 dsimp only[jm,ji,jf,jl,jL,jn,je,jx,jT,jC,jB,jq,jt,ju,jA,km,kf,kl,kn,kx,l_cache_follow,aCache,frEvs]at hc ⊢
 refine zs ?_
 repeat'(first|(simp -implicitDefEqProofs only[*,addFp_wr,zr,seval,reduceIte,reduceCtorEq])|(apply zk<;>intro hc)|(refine zp ?_)|(refine zd ?_)|(refine cP (hc) ?_)|(refine cD (hc) ?_)|(refine cF (hc) ?_)|fail)
 exact⟨[.agg [.f (.int .i64 0),.f (.int .i64 0),.f .nil,.f .nil],.f (.int .i64 _)],[.f (.int .i64 0)],[.f (.int .i64 0)],rfl,rfl,rfl,⟨rfl,rfl⟩,⟨rfl,rfl⟩,⟨⟨rfl,rfl,rfl,rfl,rfl⟩,rfl,rfl⟩,by simp [idsC,idsS],by simp [idsC,idsS],by simp [idsC,idsS]⟩
set_option maxHeartbeats 8000000 in
theorem hit_run (c:Cache) (l:List Ev) (hb:CBound c) (hk:ckCache c=0) (hlen:l.length≤3000) (hd:∀ e∈l,(e.2.2.2.1.length:Int)≤9223372036854775807) :
  FRetX2 Tryz.prog 24 [aCache c,.f (frEvs l),.clo (.func 27) [.ptr 100001 1 0,.ptr 100002 1 0]] [.v (.int .i64 0)] [.v (.int .i64 0)] [.v (.int .i64 (ht 0 0 c l).1)] [.v (.int .i64 (ht 0 0 c l).2)] (folRs (fol c l)):=by
 have hR:=right_iff.1 hk
 have hc:=CheckCache_f isDigest_f c hb
 have hO:=own_f c (by have:=hR.blen;omega) (by have:=hR.elen;omega) (fun x hx=>by have:=ckDigs_len (entOk_iff.1 (hR.eok x hx)).2.1;omega)
 rw[hk]at hc
 have d0:decide ((0:Int)=0)=true:=rfl
 have dl:decide ((3000:Int)<(l.length:Int))=false:=dcF (by omega)
 have dl2:decide ((l.length:Int) > 3000)=false:=dl
 have hF0:=folAt_0 (l:=l) hR
 have hD:=hide hd
 replace hb:=hide hb
 clear hd hk hR
 obtain⟨room,lease,bl,en⟩:=c
 generalize hf:fol (room,lease,bl,en) l=r at*
 replace hf:=hide hf
 refine FCall.of_ax low_cache_follow ?_
 dsimp only[jm,ji,jf,jl,jL,jn,je,jx,jT,jC,jB,jq,jt,ju,jA,km,kf,kl,kn,kx,l_cache_follow,aCache,frEvs]at hc hO ⊢
 refine zs ?_
 repeat'(first|(simp -implicitDefEqProofs only[*,addFp_wr,zr,seval,reduceIte,reduceCtorEq])|(apply zk<;>intro hc)|(refine zp ?_)|(refine zd ?_)|(refine cP (hc) ?_)|(refine cD (hc) ?_)|(refine cF (hc) ?_)|(refine cP (hO) ?_)|(refine cD (hO) ?_)|(refine cF (hO) ?_)|fail)
 refine ax_loopW (S:=Nat × List Blob × List Entry × List Ans × Int × Int) 47 [2,3,6,25,26] [6] (fun s=>[(27,.f (.int .i64 s.1))]) (fun s=>[(3,1,AObj.cells [.f (.int .i64 room),.f (.int .i64 lease),.sl 24 1 5 0 s.2.1.length,.sl 1024 1 3 0 s.2.2.1.length]),(24,1,AObj.cells ((rowF fBlob s.2.1).map AV.f)),(1024,1,AObj.cells ((rowF fEntry s.2.2.1).map AV.f)),(100001,1,AObj.cells [.f (.int .i64 s.2.2.2.2.1)]),(100002,1,AObj.cells [.f (.int .i64 s.2.2.2.2.2)])]) (fun s=>FolAt (room,lease,bl,en) l s.1 (room,lease,s.2.1,s.2.2.1) s.2.2.2.1∧HtAt (ht 0 0 (room,lease,bl,en) l) (room,lease,s.2.1,s.2.2.1) (l.drop s.1) s.1 s.2.2.2.2.1 s.2.2.2.2.2) (fun s=>l.length - s.1) ((0,bl,en,[],0,0)) [] [] ?_ rfl ?_ fun s hs=> ?_
 ·exact⟨hF0,rfl,by simp,by simp,by simp,by simp⟩
 ·refine wk_i ?_ ?_<;>simp only[so_cl2,zw,seval,reduceIte,reduceCtorEq]
 simp only[sws_n,swh_n]
 obtain⟨s,B,E,A,M,D⟩:=s
 dsimp only at hs ⊢
 obtain⟨hs,hp⟩:=hs
 refine zs ?_
 rcases Nat.lt_or_ge s l.length with hlt|hge
 ·obtain⟨e,he⟩:=get_some hlt
  have h4:=inc64 hlt (by omega)
  have h2:=lt_t hlt
  have h2i:decide ((s:Int)<(l.length:Int))=true:=dcT (by omega)
  have hZ:=doZ (e:=e) hs.right (hD.out e (List.mem_of_getElem? he))
  have hA:=hs.len
  by_cases hft:fltOf (room,lease,B,E) e=0
  ·have hn:=hs.next he hft
   rw[hft]at hZ
   have hp2:=hide (hp.next (ht_step he hft))
   have hCl:=hitsC_f e (ansOf (room,lease,B,E) e) M D ⟨hp.m1,by have:=hp.m2;omega⟩ ⟨hp.d1,by have:=hp.d2;omega⟩
   replace hp:=hide hp
   generalize hy:doC (room,lease,B,E) e=y at*
   obtain⟨yr,yl,B',E'⟩:=y
   obtain rfl:yr=room:=hn.room
   obtain rfl:yl=lease:=hn.lease
   generalize ansOf (yr,yl,B,E) e=a at*
   obtain⟨ab,am,ag⟩:=a
   replace hA:=hide hA
   replace hn:=hide hn
   replace hs:=hide hs
   replace hy:=hide hy
   replace hft:=hide hft
   replace hlen:=hide hlen
   replace hF0:=hide hF0
   obtain⟨kind,at_,dg,ds,key,size⟩:=e
   dsimp only[rAns]at hZ
   repeat'(first|(simp -implicitDefEqProofs only[*,List.getElem?_map,Option.map_some,fEv,zr,seval,reduceIte,reduceCtorEq])|(apply zk<;>intro hc)|(refine zp ?_)|(refine zd ?_)|fail)
   refine gP hZ 3 1 [.f (.int .i64 yr),.f (.int .i64 yl),.sl 24 1 5 0 B.length,.sl 1024 1 3 0 E.length] [] [aEv (kind,at_,dg,ds,key,size)] ?_
   clear hZ
   repeat'(first|(simp -implicitDefEqProofs only[*,addFp_wr,zr,seval,reduceIte,reduceCtorEq])|(apply zk<;>intro hc)|(refine zp ?_)|(refine zd ?_)|fail)
   refine callX2 (m:=300) rfl hCl 100001 1 [.f (.int .i64 M)] 100002 1 [.f (.int .i64 D)] (.inr ⟨[.ptr 100001 1 0,.ptr 100002 1 0],rfl,argsX3 (es:=[.int .i64 kind,.int .i64 at_,.str dg,frStrs ds,.str key,.int .i64 size]) (a:=[.bool ab,am,ag])⟩) rfl (by simp) ⟨rfl,rfl⟩ rfl (by simp) ⟨rfl,rfl⟩ (by simp [idsC]) (by decide) (by simp [idsC]) (by simp [idsC]) (by repeat (first|exact free_0|exact free_mk (by simp)|refine free_upd rfl ?_|refine free_kill ?_)) ?_
   clear hCl
   repeat'(first|(simp -implicitDefEqProofs only[*,zr,seval,reduceIte,reduceCtorEq])|(apply zk<;>intro hc)|(refine zp ?_)|(refine zd ?_)|fail)
   refine⟨(s+1,B',E',A++ [(ab,am,ag)],hm M (kind,at_,dg,ds,key,size),hd_ D (kind,at_,dg,ds,key,size) (ab,am,ag)),[(33,24),(1033,1024)],⟨hn.out,hp2.out⟩,by dsimp only;omega,rfl,?_⟩
   refine wk_i ?_ ?_<;>simp only[so_cl2,zw,seval,reduceIte,reduceCtorEq]
  ·have h5:=hs.stop he hft
   rw[hf.out]at h5
   have hpE:=hide (hp.is.trans (ht_stop he hft))
   clear hp
   generalize fltOf (room,lease,B,E) e=ft at*
   have d5:decide (ft=0)=false:=dcF hft
   subst h5
   generalize ansOf (room,lease,B,E) e=a at*
   generalize (doC (room,lease,B,E) e).2.2.1=B' at*
   generalize (doC (room,lease,B,E) e).2.2.2=E' at*
   obtain⟨ab,am,ag⟩:=a
   replace hA:=hide hA
   replace hs:=hide hs
   replace hlen:=hide hlen
   replace hF0:=hide hF0
   obtain⟨kind,at_,dg,ds,key,size⟩:=e
   dsimp only[rAns]at hZ
   rw[folRs,if_neg hft]
   replace hft:=hide hft
   repeat'(first|(simp -implicitDefEqProofs only[*,List.getElem?_map,Option.map_some,fEv,zr,seval,reduceIte,reduceCtorEq])|(apply zk<;>intro hc)|(refine zp ?_)|(refine zd ?_)|fail)
   refine gP hZ 3 1 [.f (.int .i64 room),.f (.int .i64 lease),.sl 24 1 5 0 B.length,.sl 1024 1 3 0 E.length] [] [aEv (kind,at_,dg,ds,key,size)] ?_
   clear hZ
   repeat'(first|(simp -implicitDefEqProofs only[*,addFp_wr,zr,seval,reduceIte,reduceCtorEq])|(apply zk<;>intro hc)|(refine zp ?_)|(refine zd ?_)|fail)
   exact⟨[.agg [.f (.int .i64 0),.f (.int .i64 0),.f .nil,.f .nil],.f (.int .i64 ft)],[.f (.int .i64 M)],[.f (.int .i64 D)],rfl,rfl,rfl,⟨by rw[hpE.out];rfl,rfl⟩,⟨by rw[hpE.out];rfl,rfl⟩,⟨⟨rfl,rfl,rfl,rfl,rfl⟩,rfl,rfl⟩,by simp [idsC,idsS],by simp [idsC,idsS],by simp [idsC,idsS]⟩
 ·obtain rfl:s=l.length:=by have:=hs.le;omega
  have h2:=lt_f hge
  have h2i:decide ((l.length:Int)<(l.length:Int))=false:=dcF (by omega)
  have h5:=hs.end_
  rw[hf.out]at h5
  have hpE:=hide (hp.is.trans ht_end)
  clear hp
  subst h5
  rw[folRs,if_pos rfl]
  clear hs hD hF0
  repeat'(first|(simp -implicitDefEqProofs only[*,zr,seval,reduceIte,reduceCtorEq])|(apply zk<;>intro hc)|(refine zp ?_)|(refine zd ?_)|fail)
  exact⟨[.agg [.f (.int .i64 room),.f (.int .i64 lease),.sl 24 1 5 0 B.length,.sl 1024 1 3 0 E.length],.f (.int .i64 0)],[.f (.int .i64 M)],[.f (.int .i64 D)],rfl,rfl,rfl,⟨by rw[hpE.out];rfl,rfl⟩,⟨by rw[hpE.out];rfl,rfl⟩,⟨⟨rfl,rfl,.inr ⟨24,1,rfl,rfl,lenB rfl⟩,.inr ⟨1024,1,rfl,rfl,lenE rfl⟩,rfl⟩,rfl,rfl⟩,by simp [idsC,idsS],by simp [idsC,idsS],by simp [idsC,idsS]⟩

end Go.Proofs.YtfajjcmagngfiaaGreatDoor
