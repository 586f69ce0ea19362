/-
  cache.follow for a follower that keeps the answers; cache.Follow. No statement of the seat is proved here; no conditions.
-/
import Derived.Test.YtfajjcmagngfiaaGreatDoorPlC
import Derived.Test.YtfajjcmagngfiaaGreatDoorCx
namespace Go.Proofs.YtfajjcmagngfiaaGreatDoor
open Go.RowKit Go.Shelf
set_option linter.unusedVariables false
set_option linter.unusedSimpArgs false
set_option maxRecDepth 100000

abbrev Ans:=Bool × FV × FV
def fAns (a:Ans):List FV:=[.bool a.1,a.2.1,a.2.2]
def ansOf (c:Cache) (e:Ev):Ans:=((doR c e).2.2.1,frzC (doR c e).2.2.2.1,frzC (doR c e).2.2.2.2.1)
def fltOf (c:Cache) (e:Ev):Int:=(doR c e).2.2.2.2.2
def fol:Cache→List Ev→Cache × List Ans × Int
 | c,[]=>(c,[],0)
 | c,e::l=>if fltOf c e=0 then((fol (doC c e) l).1,ansOf c e::(fol (doC c e) l).2.1,(fol (doC c e) l).2.2)else(c,[],fltOf c e)
theorem fol_yes {c:Cache}{e:Ev}{l:List Ev}(h:fltOf c e=0):fol c (e::l)=((fol (doC c e) l).1,ansOf c e::(fol (doC c e) l).2.1,(fol (doC c e) l).2.2):=by rw[fol,if_pos h]
theorem fol_no {c:Cache}{e:Ev}{l:List Ev}(h:fltOf c e≠0):fol c (e::l)=(c,[],fltOf c e):=by rw[fol,if_neg h]
theorem fol_right:∀ {l:List Ev}{c:Cache},ckCache c=0→ckCache (fol c l).1=0
 | [],c,h=>h
 | e::l,c,h=>by
  by_cases he:fltOf c e=0
  ·rw[fol_yes he];exact fol_right (doC_right h)
  ·rw[fol_no he];exact h
theorem fol_len:∀ {l:List Ev}{c:Cache},(fol c l).2.2=0→(fol c l).2.1.length=l.length
 | [],c,_=>rfl
 | e::l,c,h=>by
  by_cases he:fltOf c e=0
  ·rw[fol_yes he]at h ⊢
   simp [fol_len (l:=l) h]
  ·rw[fol_no he]at h;exact absurd h he
def pk:Int→Cache→List Ev→Int
 | m,c,[]=>m
 | m,c,e::l=>if fltOf c e=0 then pk (max m (sumSz (doC c e).2.2.1)) (doC c e) l else m
theorem fol_drop {l:List Ev}{s:Nat}{e:Ev}(h:l[s]? = some e):l.drop s=e::l.drop (s+1):=by
 obtain⟨h1,h2⟩:=List.getElem?_eq_some_iff.1 h
 rw[List.drop_eq_getElem_cons h1,h2]
def folErr (c:Cache) (l:List Ev):Int:=if ckCache c=0 then(if 3000<l.length then 2 else(fol c l).2.2)else ckCache c
def fEv (e:Ev):List FV:=[.int .i64 e.1,.int .i64 e.2.1,.str e.2.2.1,frStrs e.2.2.2.1,.str e.2.2.2.2.1,.int .i64 e.2.2.2.2.2]
def frEvs (l:List Ev):FV:= .fr 6 (l.map fEv)
def frAns (l:List Ans):FV:= .fr 3 (l.map fAns)
theorem doZ {c:Cache}{e:Ev}(h:CRight c) (hl:(e.2.2.2.1.length:Int)≤9223372036854775807) :
  FRetP Tryz.prog 18 [.v (.int .i64 c.1),.v (.int .i64 c.2.1),.own 5 c.2.2.1.length (rowF fBlob c.2.2.1),.own 3 c.2.2.2.length (rowF fEntry c.2.2.2)] [] [aEv e]
   [.v (.int .i64 c.1),.v (.int .i64 c.2.1),.own 5 (doC c e).2.2.1.length (rowF fBlob (doC c e).2.2.1),.own 3 (doC c e).2.2.2.length (rowF fEntry (doC c e).2.2.2)] [rAns (ansOf c e).1 (ansOf c e).2.1 (ansOf c e).2.2,.c (.v (.int .i64 (fltOf c e)))]:=by
 have hD:=doF_of h hl
 unfold DoF at hD
 refine FRetH.frz hD ?_
 unfold ansOf fltOf
 rcases doR_form c e with⟨x,k1,k2⟩|⟨l,k1,k2,k3⟩|⟨l,k1,k2,k3⟩
 all_goals
  generalize doR c e=r at*
  obtain⟨B,E,b,m,g,ft⟩:=r
  dsimp only at k1 k2 ⊢
  subst k1 k2
 ·exact⟨⟨rfl,rfl,rfl,trivial⟩,rfl,trivial⟩
 ·exact⟨⟨rfl,frz_s l▸rcFz_s l,rfl,trivial⟩,rfl,trivial⟩
 ·exact⟨⟨rfl,rfl,frz_s l▸rcFz_s l,trivial⟩,rfl,trivial⟩

abbrev any4:AV:= .agg [.any,.any,.any,.any]
abbrev any6:AV:= .agg [.any,.any,.any,.any,.any,.any]
theorem followC_f (A:List Ans) (a:Ans) (hA:A.length≤100000) :
  FRetX1 Tryz.prog 25 [any4,any6,.agg ((fAns a).map .f),.ptr 100001 1 0] [.own 3 A.length (rowF fAns A)] [.own 3 (A.length+1) (rowF fAns (A++ [a]))] []:=by
 obtain⟨b,m,g⟩:=a
 have e1:rowF fAns (A++ [(b,m,g)])=rowF fAns A++fAns (b,m,g):=row_snoc
 rw[e1]
 have hl:(rowF fAns A).length=A.length*3:=row_len (sz:=3) (fun _=>rfl)
 have h56:((A.length+1)*56≤140737488355328)=True:=by rw[eq_iff_iff,iff_true];omega
 refine FCall.of_ax low_cache_Follow_c1 ?_
 dsimp only[jm,ji,jf,jl,jL,jn,je,jx,jT,jC,jB,jq,jt,ju,jA,km,kf,kl,kn,kx,l_cache_Follow_c1,fAns,List.map_cons,List.map_nil]
 refine zs ?_
 repeat'(first|(simp -implicitDefEqProofs only[*,zr,seval,reduceIte,reduceCtorEq])|(apply zk<;>intro hc)|(refine zp ?_)|(refine zd ?_)|fail)
 exact⟨[],[.sl 80000 2 3 0 (A.length+1)],rfl,rfl,⟨.inr ⟨80000,2,rfl,by rw[List.map_append];rfl,by rw[List.length_append,hl];simp;omega⟩,rfl⟩,rfl,by simp [idsC,idsS],by simp [idsC,idsS]⟩
structure FolAt (c:Cache) (l:List Ev) (s:Nat) (x:Cache) (A:List Ans):Prop where
 le:s≤l.length
 right:CRight x
 room:x.1=c.1
 lease:x.2.1=c.2.1
 len:A.length=s
 is:fol c l=((fol x (l.drop s)).1,A++(fol x (l.drop s)).2.1,(fol x (l.drop s)).2.2)
theorem folAt_0 {c:Cache}{l:List Ev}(h:CRight c):FolAt c l 0 c []:=⟨Nat.zero_le _,h,rfl,rfl,rfl,rfl⟩
theorem FolAt.next {c x:Cache}{l:List Ev}{s:Nat}{A:List Ans}{e:Ev}(h:FolAt c l s x A) (he:l[s]? = some e) (h0:fltOf x e=0):FolAt c l (s+1) (doC x e) (A++ [ansOf x e]):=by
 refine⟨(List.getElem?_eq_some_iff.1 he).1,right_iff.1 (doC_right (right_iff.2 h.right)),h.room,h.lease,by simp [h.len],?_⟩
 rw[h.is,fol_drop he,fol_yes h0]
 simp
theorem FolAt.stop {c x:Cache}{l:List Ev}{s:Nat}{A:List Ans}{e:Ev}(h:FolAt c l s x A) (he:l[s]? = some e) (h0:fltOf x e≠0):fol c l=(x,A,fltOf x e):=by
 rw[h.is,fol_drop he,fol_no h0]
 simp
theorem FolAt.end_ {c x:Cache}{l:List Ev}{A:List Ans}(h:FolAt c l l.length x A):fol c l=(x,A,0):=by
 rw[h.is,List.drop_length]
 simp [fol]
theorem argsX1 {id ver:Nat}{cs:List AV}{pcs pcs':List RC}{c1 c2 c3 c4 e1 e2 e3 e4 e5 e6:AV}{a:List FV} : ArgsOk [⟨id,ver,cs,pcs,pcs'⟩] [.agg [c1,c2,c3,c4],.agg [e1,e2,e3,e4,e5,e6],.agg (a.map .f),.ptr id ver 0] [any4,any6,.agg (a.map .f),.ptr 100001 1 0]:=by
 refine⟨.inr (.inl ⟨_,_,rfl,rfl,.inl rfl,.inl rfl,.inl rfl,.inl rfl,trivial⟩),.inr (.inl ⟨_,_,rfl,rfl,.inl rfl,.inl rfl,.inl rfl,.inl rfl,.inl rfl,.inl rfl,trivial⟩),.inl (.inr (.inl ⟨rfl,?_⟩)),.inl (.inr (.inr ⟨0,_,rfl,rfl,rfl⟩)),trivial⟩
 rw[AV.pure,AV.pureL_all,List.all_eq_true]
 intro x hx
 obtain⟨y,_,rfl⟩:=List.mem_map.1 hx
 rfl
theorem lenA {A:List Ans}{n:Nat}(h:A.length=n):n*3≤(rowF fAns A).length:=by rw[row_len (sz:=3) (fun _=>rfl),h];exact Nat.le_refl _
def zRs2:RS:= .agg [.v (.int .i64 0),.v (.int .i64 0),.v .nil,.v .nil]
def folRs (r:Cache × List Ans × Int):List RS:=if r.2.2=0 then [.agg [.v (.int .i64 r.1.1),.v (.int .i64 r.1.2.1),.own 5 r.1.2.2.1.length (rowF fBlob r.1.2.2.1),.own 3 r.1.2.2.2.length (rowF fEntry r.1.2.2.2)],.c (.v (.int .i64 0))]else [zRs2,.c (.v (.int .i64 r.2.2))]
set_option maxHeartbeats 4000000 in
theorem follow_bad0 (c:Cache) (l:List Ev) (hb:CBound c) (hk:ckCache c≠0):FRetX1 Tryz.prog 24 [aCache c,.f (frEvs l),.clo (.func 25) [.ptr 100001 1 0]] [.own 3 0 []] [.own 3 0 []] [zRs2,.c (.v (.int .i64 (ckCache c)))]:=by
 have hc:=CheckCache_f isDigest_f c hb
 generalize ckCache c=q at*
 have d0:decide (q=0)=false:=dcF hk
 replace hk:=hide hk
 replace hb:=hide hb
 obtain⟨room,lease,bl,en⟩:=c
 refine FCall.of_ax low_cache_follow ?_
 dsimp only[jm,ji,jf,jl,jL,jn,je,jx,jT,jC,jB,jq,jt,ju,jA,km,kf,kl,kn,kx,l_cache_follow,aCache,frEvs]at hc ⊢
 refine zs ?_
 repeat'(first|(simp -implicitDefEqProofs only[*,addFp_wr,zr,seval,reduceIte,reduceCtorEq])|(apply zk<;>intro hc)|(refine zp ?_)|(refine zd ?_)|(refine cP (hc) ?_)|(refine cD (hc) ?_)|(refine cF (hc) ?_)|(refine cO (hc) ?_)|fail)
 exact⟨[.agg [.f (.int .i64 0),.f (.int .i64 0),.f .nil,.f .nil],.f (.int .i64 _)],[.sl 80000 1 3 0 0],rfl,rfl,⟨.inr ⟨80000,1,rfl,rfl,Nat.le_refl _⟩,rfl⟩,⟨⟨rfl,rfl,rfl,rfl,rfl⟩,rfl,rfl⟩,by simp [idsC,idsS],by simp [idsC,idsS]⟩
set_option maxHeartbeats 4000000 in
theorem follow_bad1 (c:Cache) (l:List Ev) (hb:CBound c) (hk:ckCache c=0) (hlen:3000<l.length):FRetX1 Tryz.prog 24 [aCache c,.f (frEvs l),.clo (.func 25) [.ptr 100001 1 0]] [.own 3 0 []] [.own 3 0 []] [zRs2,.c (.v (.int .i64 (2)))]:=by
 have hc:=CheckCache_f isDigest_f c hb
 rw[hk]at hc
 have d0:decide ((0:Int)=0)=true:=rfl
 have dl:decide ((3000:Int)<(l.length:Int))=true:=dcT (by omega)
 have dl2:decide ((l.length:Int) > 3000)=true:=dl
 clear hk hlen
 replace hb:=hide hb
 obtain⟨room,lease,bl,en⟩:=c
 refine FCall.of_ax low_cache_follow ?_
 dsimp only[jm,ji,jf,jl,jL,jn,je,jx,jT,jC,jB,jq,jt,ju,jA,km,kf,kl,kn,kx,l_cache_follow,aCache,frEvs]at hc ⊢
 refine zs ?_
 repeat'(first|(simp -implicitDefEqProofs only[*,addFp_wr,zr,seval,reduceIte,reduceCtorEq])|(apply zk<;>intro hc)|(refine zp ?_)|(refine zd ?_)|(refine cP (hc) ?_)|(refine cD (hc) ?_)|(refine cF (hc) ?_)|(refine cO (hc) ?_)|fail)
 exact⟨[.agg [.f (.int .i64 0),.f (.int .i64 0),.f .nil,.f .nil],.f (.int .i64 _)],[.sl 80000 1 3 0 0],rfl,rfl,⟨.inr ⟨80000,1,rfl,rfl,Nat.le_refl _⟩,rfl⟩,⟨⟨rfl,rfl,rfl,rfl,rfl⟩,rfl,rfl⟩,by simp [idsC,idsS],by simp [idsC,idsS]⟩
set_option maxHeartbeats 8000000 in
theorem follow_run (c:Cache) (l:List Ev) (hb:CBound c) (hk:ckCache c=0) (hlen:l.length≤3000) (hd:∀ e∈l,(e.2.2.2.1.length:Int)≤9223372036854775807) :
  FRetX1 Tryz.prog 24 [aCache c,.f (frEvs l),.clo (.func 25) [.ptr 100001 1 0]] [.own 3 0 []] [.own 3 (fol c l).2.1.length (rowF fAns (fol c l).2.1)] (folRs (fol c l)):=by
 have hR:=right_iff.1 hk
 have hc:=CheckCache_f isDigest_f c hb
 have hO:=own_f c (by have:=hR.blen;omega) (by have:=hR.elen;omega) (fun x hx=>by have:=ckDigs_len (entOk_iff.1 (hR.eok x hx)).2.1;omega)
 rw[hk]at hc
 have d0:decide ((0:Int)=0)=true:=rfl
 have dl:decide ((3000:Int)<(l.length:Int))=false:=dcF (by omega)
 have dl2:decide ((l.length:Int) > 3000)=false:=dl
 have hF0:=folAt_0 (l:=l) hR
 have hD:=hide hd
 replace hb:=hide hb
 clear hd hk hR
 obtain⟨room,lease,bl,en⟩:=c
 generalize hf:fol (room,lease,bl,en) l=r at*
 replace hf:=hide hf
 refine FCall.of_ax low_cache_follow ?_
 dsimp only[jm,ji,jf,jl,jL,jn,je,jx,jT,jC,jB,jq,jt,ju,jA,km,kf,kl,kn,kx,l_cache_follow,aCache,frEvs]at hc hO ⊢
 refine zs ?_
 repeat'(first|(simp -implicitDefEqProofs only[*,addFp_wr,zr,seval,reduceIte,reduceCtorEq])|(apply zk<;>intro hc)|(refine zp ?_)|(refine zd ?_)|(refine cP (hc) ?_)|(refine cD (hc) ?_)|(refine cF (hc) ?_)|(refine cO (hc) ?_)|(refine cP (hO) ?_)|(refine cD (hO) ?_)|(refine cF (hO) ?_)|(refine cO (hO) ?_)|fail)
 refine ax_loopW (S:=Nat × List Blob × List Entry × List Ans) 47 [2,3,6,25,26] [6] (fun s=>[(27,.f (.int .i64 s.1))]) (fun s=>[(3,1,AObj.cells [.f (.int .i64 room),.f (.int .i64 lease),.sl 24 1 5 0 s.2.1.length,.sl 1024 1 3 0 s.2.2.1.length]),(24,1,AObj.cells ((rowF fBlob s.2.1).map AV.f)),(1024,1,AObj.cells ((rowF fEntry s.2.2.1).map AV.f)),(100001,1,AObj.cells [.sl 80000 1 3 0 s.2.2.2.length]),(80000,1,AObj.cells ((rowF fAns s.2.2.2).map AV.f))]) (fun s=>FolAt (room,lease,bl,en) l s.1 (room,lease,s.2.1,s.2.2.1) s.2.2.2) (fun s=>l.length - s.1) ((0,bl,en,[])) [] [] ?_ rfl ?_ fun s hs=> ?_
 ·exact hF0
 ·refine wk_i ?_ ?_<;>simp only[row_nil,so_cl2,zw,seval,reduceIte,reduceCtorEq]
 simp only[sws_n,swh_n]
 obtain⟨s,B,E,A⟩:=s
 dsimp only at hs ⊢
 refine zs ?_
 rcases Nat.lt_or_ge s l.length with hlt|hge
 ·obtain⟨e,he⟩:=get_some hlt
  have h4:=inc64 hlt (by omega)
  have h2:=lt_t hlt
  have h2i:decide ((s:Int)<(l.length:Int))=true:=dcT (by omega)
  have hZ:=doZ (e:=e) hs.right (hD.out e (List.mem_of_getElem? he))
  have hA:=hs.len
  by_cases hft:fltOf (room,lease,B,E) e=0
  ·have hn:=hs.next he hft
   rw[hft]at hZ
   have hCl:=followC_f A (ansOf (room,lease,B,E) e) (by omega)
   generalize hy:doC (room,lease,B,E) e=y at*
   obtain⟨yr,yl,B',E'⟩:=y
   obtain rfl:yr=room:=hn.room
   obtain rfl:yl=lease:=hn.lease
   generalize ansOf (yr,yl,B,E) e=a at*
   obtain⟨ab,am,ag⟩:=a
   replace hA:=hide hA
   replace hn:=hide hn
   replace hs:=hide hs
   replace hy:=hide hy
   replace hft:=hide hft
   replace hlen:=hide hlen
   replace hF0:=hide hF0
   obtain⟨kind,at_,dg,ds,key,size⟩:=e
   dsimp only[rAns]at hZ
   repeat'(first|(simp -implicitDefEqProofs only[*,List.getElem?_map,Option.map_some,fEv,zr,seval,reduceIte,reduceCtorEq])|(apply zk<;>intro hc)|(refine zp ?_)|(refine zd ?_)|fail)
   refine gP hZ 3 1 [.f (.int .i64 yr),.f (.int .i64 yl),.sl 24 1 5 0 B.length,.sl 1024 1 3 0 E.length] [] [aEv (kind,at_,dg,ds,key,size)] ?_
   clear hZ
   repeat'(first|(simp -implicitDefEqProofs only[*,addFp_wr,zr,seval,reduceIte,reduceCtorEq])|(apply zk<;>intro hc)|(refine zp ?_)|(refine zd ?_)|fail)
   refine callX1 (m:=300) rfl hCl 100001 1 [.sl 80000 1 3 0 A.length] (.inr ⟨[.ptr 100001 1 0],rfl,argsX1⟩) (by rfl) (by simp) ⟨.inr ⟨80000,1,rfl,rfl,lenA rfl⟩,rfl⟩ (by simp [idsC]) (by simp [idsC]) (by repeat (first|exact free_0|exact free_mk (by simp)|refine free_upd rfl ?_|refine free_kill ?_)) ?_
   clear hCl
   repeat'(first|(simp -implicitDefEqProofs only[*,zr,seval,reduceIte,reduceCtorEq])|(apply zk<;>intro hc)|(refine zp ?_)|(refine zd ?_)|fail)
   refine⟨(s+1,B',E',A++ [(ab,am,ag)]),[(33,24),(1033,1024),(44,80000)],hn.out,by dsimp only;omega,rfl,?_⟩
   refine wk_i ?_ ?_<;>simp only[so_cl2,zw,seval,reduceIte,reduceCtorEq]
   simp
  ·have h5:=hs.stop he hft
   rw[hf.out]at h5
   generalize fltOf (room,lease,B,E) e=ft at*
   have d5:decide (ft=0)=false:=dcF hft
   subst h5
   generalize ansOf (room,lease,B,E) e=a at*
   generalize (doC (room,lease,B,E) e).2.2.1=B' at*
   generalize (doC (room,lease,B,E) e).2.2.2=E' at*
   obtain⟨ab,am,ag⟩:=a
   replace hA:=hide hA
   replace hs:=hide hs
   replace hlen:=hide hlen
   replace hF0:=hide hF0
   obtain⟨kind,at_,dg,ds,key,size⟩:=e
   dsimp only[rAns]at hZ
   rw[folRs,if_neg hft]
   replace hft:=hide hft
   repeat'(first|(simp -implicitDefEqProofs only[*,List.getElem?_map,Option.map_some,fEv,zr,seval,reduceIte,reduceCtorEq])|(apply zk<;>intro hc)|(refine zp ?_)|(refine zd ?_)|fail)
   refine gP hZ 3 1 [.f (.int .i64 room),.f (.int .i64 lease),.sl 24 1 5 0 B.length,.sl 1024 1 3 0 E.length] [] [aEv (kind,at_,dg,ds,key,size)] ?_
   clear hZ
   repeat'(first|(simp -implicitDefEqProofs only[*,addFp_wr,zr,seval,reduceIte,reduceCtorEq])|(apply zk<;>intro hc)|(refine zp ?_)|(refine zd ?_)|fail)
   exact⟨[.agg [.f (.int .i64 0),.f (.int .i64 0),.f .nil,.f .nil],.f (.int .i64 ft)],[.sl 80000 1 3 0 A.length],rfl,rfl,⟨.inr ⟨80000,1,rfl,rfl,lenA rfl⟩,rfl⟩,⟨⟨rfl,rfl,rfl,rfl,rfl⟩,rfl,rfl⟩,by simp [idsC,idsS],by simp [idsC,idsS]⟩
 ·obtain rfl:s=l.length:=by have:=hs.le;omega
  have h2:=lt_f hge
  have h2i:decide ((l.length:Int)<(l.length:Int))=false:=dcF (by omega)
  have h5:=hs.end_
  rw[hf.out]at h5
  subst h5
  rw[folRs,if_pos rfl]
  clear hs hD hF0
  repeat'(first|(simp -implicitDefEqProofs only[*,zr,seval,reduceIte,reduceCtorEq])|(apply zk<;>intro hc)|(refine zp ?_)|(refine zd ?_)|fail)
  exact⟨[.agg [.f (.int .i64 room),.f (.int .i64 lease),.sl 24 1 5 0 B.length,.sl 1024 1 3 0 E.length],.f (.int .i64 0)],[.sl 80000 1 3 0 A.length],rfl,rfl,⟨.inr ⟨80000,1,rfl,rfl,lenA rfl⟩,rfl⟩,⟨⟨rfl,rfl,.inr ⟨24,1,rfl,rfl,lenB rfl⟩,.inr ⟨1024,1,rfl,rfl,lenE rfl⟩,rfl⟩,rfl,rfl⟩,by simp [idsC,idsS],by simp [idsC,idsS]⟩
end Go.Proofs.YtfajjcmagngfiaaGreatDoor
