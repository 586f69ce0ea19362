/-
  cache.newest. No statement of the seat is proved here; no conditions.
-/
import Derived.Test.YtfajjcmagngfiaaGreatDoorSto
namespace Go.Proofs.YtfajjcmagngfiaaGreatDoor
open Go.RowKit Go.Shelf
set_option linter.unusedVariables false
set_option linter.unusedSimpArgs false
set_option maxRecDepth 100000

def maxB (bl:List Blob) (m:Int):Int:=bl.foldl (fun m b=>max m b.2.2.1) m
def maxE (en:List Entry) (m:Int):Int:=en.foldl (fun m b=>max m b.2.2) m
def newestV (bl:List Blob) (en:List Entry):Int:=maxE en (maxB bl 0)
theorem maxB_snoc {bl:List Blob}{b:Blob}{m:Int} : maxB (bl++ [b]) m=max (maxB bl m) b.2.2.1:=by simp [maxB]
theorem maxE_snoc {bl:List Entry}{b:Entry}{m:Int} : maxE (bl++ [b]) m=max (maxE bl m) b.2.2:=by simp [maxE]
set_option maxHeartbeats 1000000 in
theorem newest_f (c:Cache) (hb:c.2.2.1.length≤1000000) (he:c.2.2.2.length≤1000000):FRet Tryz.prog 39 [aCache c] [.c (.v (.int .i64 (newestV c.2.2.1 c.2.2.2)))]:=by
 obtain⟨room,lease,bl,en⟩:=c
 simp only at hb he ⊢
 refine FCall.of_ax low_cache_newest ?_
 dsimp only[jm,ji,jf,jl,jL,jn,je,jx,jT,jC,jB,jq,jt,ju,jA,km,kf,kl,kn,kx,l_cache_newest,aCache]
 refine zs ?_
 repeat'(first|(simp -implicitDefEqProofs only[*,frBlobs,frEntries,zr,seval,reduceIte,reduceCtorEq])|(apply zk<;>intro hc)|(refine zp ?_)|(refine zd ?_)|fail)
 refine ax_loopU (S:=Nat) 33 [1,9,10] [1] (fun s=>[(3,.f (.int .i64 (maxB (bl.take s) 0))),(11,.f (.int .i64 s))]) (fun s=>[]) (fun s=>s≤bl.length) (fun s=>bl.length - s) (0) [] ?_ ?_ fun s hs=> ?_
 ·exact Nat.zero_le _
 ·refine wk_i ?_ ?_<;>simp only[List.take_zero,show maxB [] 0=0 from rfl,zw,seval,reduceIte,reduceCtorEq]
 refine zs ?_
 rcases Nat.lt_or_ge s bl.length with hlt|hge
 ·obtain⟨x,hx⟩:=get_some hlt
  have h4:=inc64 hlt (by omega)
  have h2:=lt_t hlt
  have hs2:maxB (bl.take (s+1)) 0=max (maxB (bl.take s) 0) x.2.2.1:=by rw[List.take_add_one,hx];exact maxB_snoc
  generalize maxB (bl.take s) 0=m at*
  replace hs2:=hide hs2
  repeat'(first|(simp -implicitDefEqProofs only[*,List.getElem?_map,Option.map_some,fBlob,zr,seval,reduceIte,reduceCtorEq])|(apply zk<;>intro hc)|(refine zp ?_)|(refine zd ?_)|fail)
  refine⟨s+1,hlt,by omega,?_⟩
  rw[hs2.out]
  refine wk_i ?_ ?_<;>simp only[zw,seval,reduceIte,reduceCtorEq]
 ·obtain rfl:s=bl.length:=by omega
  have h2:=lt_f hge
  have h3:=List.take_length (l:=bl)
  obtain⟨mb,hmb⟩:∃ m,maxB bl 0=m:=⟨_,rfl⟩
  have hN:newestV bl en=maxE en mb:=by rw[newestV,hmb]
  rw[hN]
  replace hN:=hide hN
  repeat'(first|(simp -implicitDefEqProofs only[*,hmb,zr,seval,reduceIte,reduceCtorEq])|(apply zk<;>intro hc)|(refine zp ?_)|(refine zd ?_)|fail)
  replace hmb:=hide hmb
  refine ax_loopU (S:=Nat) 33 [21,22] [] (fun s=>[(3,.f (.int .i64 (maxE (en.take s) mb))),(23,.f (.int .i64 s))]) (fun s=>[]) (fun s=>s≤en.length) (fun s=>en.length - s) (0) [] ?_ ?_ fun s hs=> ?_
  ·exact Nat.zero_le _
  ·refine wk_i ?_ ?_<;>simp only[List.take_zero,show maxE [] mb=mb from rfl,zw,seval,reduceIte,reduceCtorEq]
  refine zs ?_
  rcases Nat.lt_or_ge s en.length with hlt|hge
  ·obtain⟨x,hx⟩:=get_some hlt
   have h4:=inc64 hlt (by omega)
   have h2:=lt_t hlt
   have hs2:maxE (en.take (s+1)) mb=max (maxE (en.take s) mb) x.2.2:=by rw[List.take_add_one,hx];exact maxE_snoc
   generalize maxE (en.take s) mb=m at*
   replace hs2:=hide hs2
   repeat'(first|(simp -implicitDefEqProofs only[*,List.getElem?_map,Option.map_some,fEntry,zr,seval,reduceIte,reduceCtorEq])|(apply zk<;>intro hc)|(refine zp ?_)|(refine zd ?_)|fail)
   refine⟨s+1,hlt,by omega,?_⟩
   rw[hs2.out]
   refine wk_i ?_ ?_<;>simp only[zw,seval,reduceIte,reduceCtorEq]
  ·obtain rfl:s=en.length:=by omega
   have h2:=lt_f hge
   have h3:=List.take_length (l:=en)
   repeat'(first|(simp -implicitDefEqProofs only[*,zr,seval,reduceIte,reduceCtorEq])|(apply zk<;>intro hc)|(refine zp ?_)|(refine zd ?_)|fail)
   exact ret_v
end Go.Proofs.YtfajjcmagngfiaaGreatDoor
namespace Go.Proofs.YtfajjcmagngfiaaGreatDoor
open Go.RowKit Go.Shelf
set_option linter.unusedVariables false
set_option linter.unusedSimpArgs false
set_option maxRecDepth 100000

def flds (k:Int):Bool × Bool × Bool × Bool:=if k=1 then(true,false,false,true)else if k=3 then(false,true,false,false)else if k=6 then(false,true,true,false)else if k=7 then(false,false,true,false)else(true,false,false,false)
theorem fields_f (k:Int):FRet Tryz.prog 60 [.f (.int .i64 k)] [.c (.v (.bool (flds k).1)),.c (.v (.bool (flds k).2.1)),.c (.v (.bool (flds k).2.2.1)),.c (.v (.bool (flds k).2.2.2))]:=by
 refine FCall.of_ax low_cache_fields ?_
 dsimp only[jm,ji,jf,jl,jL,jn,je,jx,jT,jC,jB,jq,jt,ju,jA,km,kf,kl,kn,kx,l_cache_fields]
 by_cases h1:k=1
 ·have d1:decide (k=1)=true:=dcT h1
  have e:flds k=(true,false,false,true):=by rw[flds,if_pos h1]
  rw[e]
  clear e
  replace h1:=hide h1
  refine zs ?_
  repeat'(first|(simp -implicitDefEqProofs only[*,zr,seval,reduceIte,reduceCtorEq])|(apply zk<;>intro hc)|(refine zp ?_)|(refine zd ?_)|fail)
  exact⟨[.f (.bool true),.f (.bool false),.f (.bool false),.f (.bool true)],rfl,⟨rfl,rfl,rfl,rfl,rfl⟩,by simp [idsS]⟩
 have d1:decide (k=1)=false:=dcF h1
 by_cases h3:k=3
 ·have d3:decide (k=3)=true:=dcT h3
  have e:flds k=(false,true,false,false):=by rw[flds,if_neg h1,if_pos h3]
  rw[e]
  clear e
  replace h1:=hide h1
  replace h3:=hide h3
  refine zs ?_
  repeat'(first|(simp -implicitDefEqProofs only[*,zr,seval,reduceIte,reduceCtorEq])|(apply zk<;>intro hc)|(refine zp ?_)|(refine zd ?_)|fail)
  exact⟨[.f (.bool false),.f (.bool true),.f (.bool false),.f (.bool false)],rfl,⟨rfl,rfl,rfl,rfl,rfl⟩,by simp [idsS]⟩
 have d3:decide (k=3)=false:=dcF h3
 by_cases h6:k=6
 ·have d6:decide (k=6)=true:=dcT h6
  have e:flds k=(false,true,true,false):=by rw[flds,if_neg h1,if_neg h3,if_pos h6]
  rw[e]
  clear e
  replace h1:=hide h1
  replace h3:=hide h3
  replace h6:=hide h6
  refine zs ?_
  repeat'(first|(simp -implicitDefEqProofs only[*,zr,seval,reduceIte,reduceCtorEq])|(apply zk<;>intro hc)|(refine zp ?_)|(refine zd ?_)|fail)
  exact⟨[.f (.bool false),.f (.bool true),.f (.bool true),.f (.bool false)],rfl,⟨rfl,rfl,rfl,rfl,rfl⟩,by simp [idsS]⟩
 have d6:decide (k=6)=false:=dcF h6
 by_cases h7:k=7
 ·have d7:decide (k=7)=true:=dcT h7
  have e:flds k=(false,false,true,false):=by rw[flds,if_neg h1,if_neg h3,if_neg h6,if_pos h7]
  rw[e]
  clear e
  replace h1:=hide h1
  replace h3:=hide h3
  replace h6:=hide h6
  replace h7:=hide h7
  refine zs ?_
  repeat'(first|(simp -implicitDefEqProofs only[*,zr,seval,reduceIte,reduceCtorEq])|(apply zk<;>intro hc)|(refine zp ?_)|(refine zd ?_)|fail)
  exact⟨[.f (.bool false),.f (.bool false),.f (.bool true),.f (.bool false)],rfl,⟨rfl,rfl,rfl,rfl,rfl⟩,by simp [idsS]⟩
 have d7:decide (k=7)=false:=dcF h7
 have e:flds k=(true,false,false,false):=by rw[flds,if_neg h1,if_neg h3,if_neg h6,if_neg h7]
 rw[e]
 clear e
 replace h1:=hide h1
 replace h3:=hide h3
 replace h6:=hide h6
 replace h7:=hide h7
 refine zs ?_
 repeat'(first|(simp -implicitDefEqProofs only[*,zr,seval,reduceIte,reduceCtorEq])|(apply zk<;>intro hc)|(refine zp ?_)|(refine zd ?_)|fail)
 exact⟨[.f (.bool true),.f (.bool false),.f (.bool false),.f (.bool false)],rfl,⟨rfl,rfl,rfl,rfl,rfl⟩,by simp [idsS]⟩
theorem flds_any (k:Int):flds k=(true,false,false,true)∨flds k=(false,true,false,false)∨flds k=(false,true,true,false)∨flds k=(false,false,true,false)∨flds k=(true,false,false,false):=by
 unfold flds
 split
 ·exact .inl rfl
 split
 ·exact .inr (.inl rfl)
 split
 ·exact .inr (.inr (.inl rfl))
 split
 ·exact .inr (.inr (.inr (.inl rfl)))
 ·exact .inr (.inr (.inr (.inr rfl)))
def ckEv (e:Ev):Int:=
 if inRg e.1 1 8=true then
  (if ((!(flds e.1).1&& !decide (e.2.2.1=⟨#[]⟩))||(!(flds e.1).2.1&&decide ((0:Int)<(e.2.2.2.1.length:Int)))||(!(flds e.1).2.2.1&& !decide (e.2.2.2.2.1=⟨#[]⟩))||(!(flds e.1).2.2.2&& !decide (e.2.2.2.2.2=0)))=true then 3
  else if (((flds e.1).1&& !isDig e.2.2.1)||((flds e.1).2.2.1&& !isDig e.2.2.2.2.1))=true then 3
  else if decide (ckDigsM e.2.2.2.1 200=0)=true then(if (inRg e.2.2.2.2.2 0 100000000&&inRg e.2.1 0 1000000000)=true then 0 else 1)else ckDigsM e.2.2.2.1 200)
 else 4
set_option maxHeartbeats 4000000 in
theorem checkEvent_g (e:Ev) (hd:(e.2.2.2.1.length:Int)≤9223372036854775807):FRet Tryz.prog 38 [aEv e] [.c (.v (.int .i64 (ckEv e)))]:=by
 obtain⟨kind,at_,dg,ds,key,size⟩:=e
 dsimp only at hd
 have hf:=fields_f kind
 have hcd:=checkDigests_f isDigest_f ds 200 hd
 refine FCall.of_ax low_cache_checkEvent ?_
 dsimp only[jm,ji,jf,jl,jL,jn,je,jx,jT,jC,jB,jq,jt,ju,jA,km,kf,kl,kn,kx,l_cache_checkEvent,aEv,frStrs,ckEv]at hcd ⊢
 rcases flds_any kind with hk|hk|hk|hk|hk
 all_goals
  rw[hk]at hf ⊢
  clear hk
  refine zs ?_
 repeat'(first|(simp -implicitDefEqProofs only[*,zr,seval,reduceIte,reduceCtorEq])|(apply zk<;>intro hc)|(refine zp ?_)|(refine zd ?_)|(refine cP (within_f kind 1 8) ?_)|(refine cD (within_f kind 1 8) ?_)|(refine cF (within_f kind 1 8) ?_)|(refine cP (within_f size 0 100000000) ?_)|(refine cD (within_f size 0 100000000) ?_)|(refine cF (within_f size 0 100000000) ?_)|(refine cP (isMoment_f at_) ?_)|(refine cD (isMoment_f at_) ?_)|(refine cF (isMoment_f at_) ?_)|(refine cP (isDigest_f dg) ?_)|(refine cD (isDigest_f dg) ?_)|(refine cF (isDigest_f dg) ?_)|(refine cP (isDigest_f key) ?_)|(refine cD (isDigest_f key) ?_)|(refine cF (isDigest_f key) ?_)|(refine cP (hcd) ?_)|(refine cD (hcd) ?_)|(refine cF (hcd) ?_)|(refine cP (hf) ?_)|(refine cD (hf) ?_)|(refine cF (hf) ?_)|fail)
 all_goals (clear hf hcd;refine ret_ve ?_;simp only[*,Int.reduceEq,Int.reduceNe,if_true,if_false,ne_eq,not_true_eq_false,not_false_eq_true,reduceIte,Bool.false_eq_true,Bool.true_and,Bool.and_true,Bool.false_and,Bool.and_false,Bool.not_true,Bool.not_false,Bool.true_or,Bool.or_true,Bool.false_or,Bool.or_false,decide_true,decide_false,reduceCtorEq])
theorem checkEvent_f (e:Ev) (hd:e.2.2.2.1.length≤1000000):FRet Tryz.prog 38 [aEv e] [.c (.v (.int .i64 (ckEv e)))]:=checkEvent_g e (by omega)
end Go.Proofs.YtfajjcmagngfiaaGreatDoor
