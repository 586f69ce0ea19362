/-
  Faithful trees and equal lists of files. No statement of the seat is proved here; no conditions.
-/
import Derived.Test.YtjfchihkhpinmaaGreatDoorTtK
namespace Go.Proofs.YtjfchihkhpinmaaGreatDoor
open Go.RowKit Go.Shelf
set_option linter.unusedVariables false
set_option linter.unusedSimpArgs false
set_option maxRecDepth 100000

theorem QBc (a b:List UInt8):FRet Tryz.prog 41 [.f (frB a),.f (frB b)] [.c (.v (.bool (decide (a=b))))]:=by
 have h:decide (a=b)=decide (bs a=bs b):=by
  rw[decide_eq_decide];exact⟨fun h=>h▸rfl,KR⟩
 rw[h]
 refine FCall.of_ax NW ?_
 dsimp only[jm,ji,jf,jl,jL,jn,je,jx,jT,jC,jB,jq,jt,ju,jA,km,kf,kl,kn,kx,WG,frB]
 refine zrs ?_
 repeat'(first|(simp -implicitDefEqProofs only[*,zr,seval,reduceIte,reduceCtorEq])|(apply zk<;>intro hc)|(refine zp ?_)|(refine zd ?_)|fail)
 exact VO
def Fai (A:List (List UInt8)):Prop:=∀ x∈A,∀ y∈A,digV x=digV y→x=y
instance (A:List (List UInt8)):Decidable (Fai A):=inferInstanceAs (Decidable (∀ x∈A,∀ y∈A,digV x=digV y→x=y))
def FaiTo (A:List (List UInt8)) (i:Nat):Prop:=∀ (a b:Nat) x y,a<i→b<a→A[a]? = some x→A[b]? = some y→digV x=digV y→x=y
theorem fai_of {A:List (List UInt8)}(h:FaiTo A A.length):Fai A:=fun x hx y hy e=>by
 obtain⟨a,ha⟩:=List.mem_iff_getElem?.1 hx
 obtain⟨b,hb⟩:=List.mem_iff_getElem?.1 hy
 have la:=(List.getElem?_eq_some_iff.1 ha).1
 have lb:=(List.getElem?_eq_some_iff.1 hb).1
 rcases Nat.lt_trichotomy a b with h1|h1|h1
 ·exact(h b a y x lb h1 hb ha e.symm).symm
 ·subst h1;rw[ha]at hb;exact Option.some.inj hb
 ·exact h a b x y la h1 ha hb e
set_option maxHeartbeats 2000000 in
theorem QDy (A:List (List UInt8)) (hl:A.length≤10000000) (hb:∀ x∈A,x.length≤10000000):FRet Tryz.prog 15 [.f (Oz A)] [.c (.v (.bool (decide (Fai A))))]:=by
 have hB:=hide hb
 clear hb
 refine FCall.of_ax Wu ?_
 dsimp only[jm,ji,jf,jl,jL,jn,je,jx,jT,jC,jB,jq,jt,ju,jA,km,kf,kl,kn,kx,JR,Oz]
 refine zrs ?_
 repeat'(first|(simp -implicitDefEqProofs only[*,zr,seval,reduceIte,reduceCtorEq])|(apply zk<;>intro hc)|(refine zp ?_)|(refine zd ?_)|fail)
 refine QK (S:=Nat) 39 [0] [] (fun s=>[(3,.f (.int .i64 s))]) (fun s=>[]) (fun s=>s≤A.length∧FaiTo A s) (fun s=>A.length - s) (0) [] ?_ ?_ fun s hs=> ?_
 ·exact⟨Nat.zero_le _,fun a b x y h=>absurd h (Nat.not_lt_zero _)⟩
 ·refine wk_i ?_ ?_<;>simp only[zw,seval,reduceIte,reduceCtorEq]
 obtain⟨hs,hf⟩:=hs
 rcases Nat.lt_or_ge s A.length with hlt|hge
 ·obtain⟨x,hx⟩:=QH hlt
  have h4:=XU hlt (by omega)
  have h2:=lt_t hlt
  have hxm:=List.mem_of_getElem? hx
  have hxl:=hB.out x hxm
  have kX:=Wa x (by omega)
  have hx1:(A.map encB)[s]? = some [frB x]:=by rw[List.getElem?_map,hx];rfl
  obtain⟨i,hi⟩:∃ i,i=s:=⟨s,rfl⟩
  subst hi
  replace hf:=hide hf
  refine zrs ?_
  repeat'(first|(simp -implicitDefEqProofs only[*,zr,seval,reduceIte,reduceCtorEq])|(apply zk<;>intro hc)|(refine zp ?_)|(refine zd ?_)|fail)
  refine QK (S:=Nat) 39 [0,3] [] (fun s=>[(4,.f (.int .i64 s))]) (fun s=>[]) (fun s=>s≤i∧(∀ (b:Nat) y,b<s→A[b]? = some y→digV x=digV y→x=y)) (fun s=>i - s) (0) [] ?_ ?_ fun s hs=> ?_
  ·exact⟨Nat.zero_le _,fun b y h=>absurd h (Nat.not_lt_zero _)⟩
  ·refine wk_i ?_ ?_<;>simp only[zw,seval,reduceIte,reduceCtorEq]
  obtain⟨hs',hg⟩:=hs
  rcases Nat.lt_or_ge s i with hlt'|hge'
  ·obtain⟨y,hy⟩:=QH (l:=A) (i:=s) (by omega)
   have h4':=XU hlt' (by omega)
   have h2':=lt_t hlt'
   have hym:=List.mem_of_getElem? hy
   have hyl:=hB.out y hym
   have kY:=Wa y (by omega)
   have hy1:(A.map encB)[s]? = some [frB y]:=by rw[List.getElem?_map,hy];rfl
   have kE:=QBc x y
   by_cases hd:digV x=digV y∧x≠y
   ·have d1:decide (digV x=digV y)=true:=decide_eq_true hd.1
    have d2:decide (x=y)=false:=decide_eq_false hd.2
    have d3:decide (Fai A)=false:=decide_eq_false fun h=>hd.2 (h x hxm y hym hd.1)
    rw[d2]at kE
    rw[d3]
    clear hg hd hxl hyl hxm hym d2 d3
    generalize digV x=dx at*
    generalize digV y=dy at*
    generalize frB x=X at*
    generalize frB y=Y at*
    generalize A.map encB=AM at*
    refine zrs ?_
    repeat'(first|(simp -implicitDefEqProofs only[*,zr,seval,reduceIte,reduceCtorEq])|(apply zk<;>intro hc)|(refine zp ?_)|(refine zd ?_)|(refine cP (kX) ?_)|(refine cD (kX) ?_)|(refine cF (kX) ?_)|(refine cP (kY) ?_)|(refine cD (kY) ?_)|(refine cF (kY) ?_)|(refine cP (kE) ?_)|(refine cD (kE) ?_)|(refine cF (kE) ?_)|fail)
    exact VO
   ·have hg':∀ (b:Nat) z,b<s+1→A[b]? = some z→digV x=digV z→x=z:=fun b z hb hz e=>by
     rcases Nat.lt_or_ge b s with h|h
     ·exact hg b z h hz e
     ·obtain rfl:b=s:=by omega
      rw[hy]at hz
      obtain rfl:=Option.some.inj hz
      by_cases e2:x=y
      ·exact e2
      ·exact absurd ⟨e,e2⟩ hd
    replace hg':=hide hg'
    by_cases e1:digV x=digV y
    ·have d1:decide (digV x=digV y)=true:=decide_eq_true e1
     have d2:decide (x=y)=true:=decide_eq_true (by
      by_cases e2:x=y
      ·exact e2
      ·exact absurd ⟨e1,e2⟩ hd)
     rw[d2]at kE
     clear hg hd hxl hyl hxm hym d2 e1
     generalize digV x=dx at*
     generalize digV y=dy at*
     generalize frB x=X at*
     generalize frB y=Y at*
     generalize A.map encB=AM at*
     refine zrs ?_
     repeat'(first|(simp -implicitDefEqProofs only[*,zr,seval,reduceIte,reduceCtorEq])|(apply zk<;>intro hc)|(refine zp ?_)|(refine zd ?_)|(refine cP (kX) ?_)|(refine cD (kX) ?_)|(refine cF (kX) ?_)|(refine cP (kY) ?_)|(refine cD (kY) ?_)|(refine cF (kY) ?_)|(refine cP (kE) ?_)|(refine cD (kE) ?_)|(refine cF (kE) ?_)|fail)
     refine⟨s+1,⟨hlt',hg'.out⟩,by omega,?_⟩
     refine wk_i ?_ ?_<;>simp only[zw,seval,reduceIte,reduceCtorEq]
    ·have d1:decide (digV x=digV y)=false:=decide_eq_false e1
     clear hg hd hxl hyl hxm hym e1 kE
     generalize digV x=dx at*
     generalize digV y=dy at*
     generalize frB x=X at*
     generalize frB y=Y at*
     generalize A.map encB=AM at*
     refine zrs ?_
     repeat'(first|(simp -implicitDefEqProofs only[*,zr,seval,reduceIte,reduceCtorEq])|(apply zk<;>intro hc)|(refine zp ?_)|(refine zd ?_)|(refine cP (kX) ?_)|(refine cD (kX) ?_)|(refine cF (kX) ?_)|(refine cP (kY) ?_)|(refine cD (kY) ?_)|(refine cF (kY) ?_)|fail)
     refine⟨s+1,⟨hlt',hg'.out⟩,by omega,?_⟩
     refine wk_i ?_ ?_<;>simp only[zw,seval,reduceIte,reduceCtorEq]
  ·obtain rfl:s=i:=by omega
   have h2':=lt_f hge'
   have hf':FaiTo A (s+1):=fun a b u v ha hb hu hv e=>by
    rcases Nat.lt_or_ge a s with h|h
    ·exact hf.out a b u v h hb hu hv e
    ·obtain rfl:a=s:=by omega
     rw[hx]at hu
     obtain rfl:=Option.some.inj hu
     exact hg b v hb hv e
   replace hf':=hide hf'
   clear hg hf kX
   refine zrs ?_
   repeat'(first|(simp -implicitDefEqProofs only[*,zr,seval,reduceIte,reduceCtorEq])|(apply zk<;>intro hc)|(refine zp ?_)|(refine zd ?_)|fail)
   refine⟨s+1,⟨hlt,hf'.out⟩,by omega,?_⟩
   refine wk_i ?_ ?_<;>simp only[zw,seval,reduceIte,reduceCtorEq]
 ·obtain rfl:s=A.length:=by omega
  have h2:=lt_f hge
  have d1:decide (Fai A)=true:=decide_eq_true (fai_of hf)
  rw[d1]
  clear hf hB d1
  refine zrs ?_
  repeat'(first|(simp -implicitDefEqProofs only[*,zr,seval,reduceIte,reduceCtorEq])|(apply zk<;>intro hc)|(refine zp ?_)|(refine zd ?_)|fail)
  exact VO
theorem cont_bd:∀ (k:Nat) (l:List FT),Gd PO l→Sz l→∀ c∈cont digV k l,c.length≤10000000
 | 0,l,_,_,c,hc=>by cases hc
 | k+1,l,hG,hz,c,hc=>by
  rw[QB7]at hc
  rcases List.mem_cons.1 hc with rfl|hc
  ·exact UN hz
  ·obtain⟨d,hd,hc⟩:=List.mem_flatMap.1 hc
   have hg:=Vg.1 hd
   obtain⟨n,f|fs⟩:=d
   ·obtain rfl:=List.mem_singleton.1 hc
    have:=hz.by_ f (hG.file hg).1
    omega
   ·exact cont_bd k fs (hG.dir hg).1 (hz.dir hg).1 c hc
theorem MQ (l:List FT) (hG:Gd PO l) (hs:Short 201 l) (hz:Sz l):FRet Tryz.prog 5 [.f (QY l)] [.c (.v (.bool (decide (Fai (cont digV 202 l)))))]:=by
 have k1:=Mm 201 (Nat.le_refl _) l hG hs hz
 have h1:=QAH digV 202 l hG
 have h2:=hz.len
 have k2:=QDy (cont digV 202 l) (by omega) (cont_bd 202 l hG hz)
 clear h1 h2
 generalize hv:decide (Fai (cont digV 202 l))=v at*
 clear hv
 generalize hA:Oz (cont digV 202 l)=A at*
 clear hA
 generalize hF:QY l=F at*
 refine FCall.of_ax JI ?_
 dsimp only[jm,ji,jf,jl,jL,jn,je,jx,jT,jC,jB,jq,jt,ju,jA,km,kf,kl,kn,kx,Yh]
 refine zrs ?_
 repeat'(first|(simp -implicitDefEqProofs only[*,zr,seval,reduceIte,reduceCtorEq])|(apply zk<;>intro hc)|(refine zp ?_)|(refine zd ?_)|(refine cP (k1) ?_)|(refine cD (k1) ?_)|(refine cF (k1) ?_)|(refine cP (k2) ?_)|(refine cD (k2) ?_)|(refine cF (k2) ?_)|fail)
 exact VO
theorem QDR (x:FT):FRet Tryz.prog 31 [.agg ((fFt x).map .f),.agg ((fFt x).map .f)] [.c (.v (.bool true))]:=by
 have kE:=QBc x.2.2 x.2.2
 rw[show decide (x.2.2=x.2.2)=true from decide_eq_true rfl]at kE
 obtain⟨p,r,b⟩:=x
 have d1:decide (bs p=bs p)=true:=decide_eq_true rfl
 have d2:(r == r)=true:=beq_self_eq_true r
 have d3:decide (r=r)=true:=decide_eq_true rfl
 have hone:(frB b).isOne=true:=rfl
 dsimp only at kE
 refine FCall.of_ax Wt ?_
 dsimp only[jm,ji,jf,jl,jL,jn,je,jx,jT,jC,jB,jq,jt,ju,jA,km,kf,kl,kn,kx,JQ,fFt,List.map]
 generalize frB b=B at*
 refine zrs ?_
 repeat'(first|(simp -implicitDefEqProofs only[*,zr,seval,reduceIte,reduceCtorEq])|(apply zk<;>intro hc)|(refine zp ?_)|(refine zd ?_)|(refine cP (kE) ?_)|(refine cD (kE) ?_)|(refine cF (kE) ?_)|fail)
 all_goals exact VO
set_option maxHeartbeats 2000000 in
theorem QBq (l:List FT) (hl:l.length≤1000000):FRet Tryz.prog 9 [.f (QY l),.f (QY l)] [.c (.v (.bool true))]:=by
 refine FCall.of_ax Uw ?_
 dsimp only[jm,ji,jf,jl,jL,jn,je,jx,jT,jC,jB,jq,jt,ju,jA,km,kf,kl,kn,kx,Zp,QY]
 refine zrs ?_
 repeat'(first|(simp -implicitDefEqProofs only[*,zr,seval,reduceIte,reduceCtorEq])|(apply zk<;>intro hc)|(refine zp ?_)|(refine zd ?_)|fail)
 refine QK (S:=Nat) 27 [0,1] [] (fun s=>[(5,.f (.int .i64 s))]) (fun s=>[]) (fun s=>s≤l.length) (fun s=>l.length - s) (0) [] ?_ ?_ fun s hs=> ?_
 ·exact Nat.zero_le _
 ·refine wk_i ?_ ?_<;>simp only[zw,seval,reduceIte,reduceCtorEq]
 rcases Nat.lt_or_ge s l.length with hlt|hge
 ·obtain⟨x,hx⟩:=QH hlt
  have h4:=XU hlt (by omega)
  have h2:=lt_t hlt
  have kS:=QDR x
  have hx1:(l.map fFt)[s]? = some (fFt x):=by rw[List.getElem?_map,hx];rfl
  obtain⟨p,r,b⟩:=x
  dsimp only[fFt,List.map]at kS hx1
  refine zrs ?_
  repeat'(first|(simp -implicitDefEqProofs only[*,zr,seval,reduceIte,reduceCtorEq])|(apply zk<;>intro hc)|(refine zp ?_)|(refine zd ?_)|(refine cP (kS) ?_)|(refine cD (kS) ?_)|(refine cF (kS) ?_)|fail)
  refine⟨s+1,hlt,by omega,?_⟩
  refine wk_i ?_ ?_<;>simp only[zw,seval,reduceIte,reduceCtorEq]
 ·have h2:=lt_f hge
  refine zrs ?_
  repeat'(first|(simp -implicitDefEqProofs only[*,zr,seval,reduceIte,reduceCtorEq])|(apply zk<;>intro hc)|(refine zp ?_)|(refine zd ?_)|fail)
  exact VO
end Go.Proofs.YtjfchihkhpinmaaGreatDoor
