/-
  CheckFiles. No statement of the seat is proved here; no conditions.
-/
import Derived.Test.YtjfchihkhpinmaaGreatDoorTtB
namespace Go.Proofs.YtjfchihkhpinmaaGreatDoor
open Go.RowKit Go.Shelf
set_option linter.unusedVariables false
set_option linter.unusedSimpArgs false
set_option maxRecDepth 100000

def fFt (x:FT):List FV:=[.str (bs x.1),.bool x.2.1,frB x.2.2]
def QY (l:List FT):FV:= .fr 3 (l.map fFt)
def ptF (x:FT):ByteArray:=bs x.1
def totF (l:List FT):Int:=(l.map fun x=>(x.2.2.length:Int)).sum
def Nw (l:List FT) (m:Nat):Int:=match l[m]? with
 | none=>0
 | some x=>if Vw (ptF x)=true then(if (100000:Int)<x.2.2.length then 2 else Zt l m (fun y=>if leS (ptF x) (ptF y)=true then 8 else 0))else 3
theorem Nv {l:List FT}{m:Nat}{x:FT}(h:l[m]? = some x):Nw l m=if Vw (ptF x)=true then(if (100000:Int)<x.2.2.length then 2 else Zt l m (fun y=>if leS (ptF x) (ptF y)=true then 8 else 0))else 3:=by unfold Nw;rw[h]
def ckF (l:List FT):Int:=if (1000:Int)<l.length then 2 else if XB (Nw l) 0 l.length≠0 then XB (Nw l) 0 l.length else if l.any (fun x=>Nz (l.map ptF) (ptF x))=true then 12 else if 2000000<totF l then 2 else 0
theorem QAS {l:List FT}{s:Nat}{x:FT}(h:l[s]? = some x):totF (l.take (s+1))=totF (l.take s)+x.2.2.length:=by
 unfold totF
 rw[List.take_add_one,h,List.map_append,List.sum_append];simp
theorem totF_bd {l:List FT} : ∀ {s:Nat},(∀ m,m<s→Nw l m=0)→s≤l.length→0≤totF (l.take s)∧totF (l.take s)≤100000*s
 | 0,_,_=>by simp [totF]
 | s+1,h,hs=>by
  obtain⟨x,hx⟩:=QH (l:=l) (i:=s) (by omega)
  have ih:=totF_bd (fun m hm=>h m (by omega)) (by omega:s≤l.length)
  have h1:=h s (by omega)
  rw[Nv hx]at h1
  rw[QAS hx]
  split at h1
  ·split at h1
   ·cases h1
   ·omega
  ·cases h1
set_option maxHeartbeats 1000000 in
theorem KU (l:List FT) (hb:∀ x∈l,x.1.length≤140737488355328∧x.2.2.length≤140737488355328) (hl:(l.length:Int)≤9223372036854775807) (hw:∀ x∈l,(ptF x).size≤200→∀ w∈Xo (ptF x) 47,w.size≤200):FRet Tryz.prog 10 [.f (QY l)] [.c (.v (.int .i64 (ckF l)))]:=by
 have hB:=hide hb
 have hW:=hide hw
 clear hb hw
 refine FCall.of_ax UZ ?_
 dsimp only[jm,ji,jf,jl,jL,jn,je,jx,jT,jC,jB,jq,jt,ju,jA,km,kf,kl,kn,kx,ZI,QY]
 unfold ckF
 by_cases h0:(1000:Int)<l.length
 ·rw[if_pos h0]
  have d0:decide ((1000:Int)<l.length)=true:=dcT h0
  have d0':decide ((l.length:Int) > 1000)=true:=d0
  replace h0:=hide h0
  refine zrs ?_
  repeat'(first|(simp -implicitDefEqProofs only[*,List.length_map,zr,seval,reduceIte,reduceCtorEq])|(apply zk<;>intro hc)|(refine zp ?_)|(refine zd ?_)|fail)
  exact VO
 rw[if_neg h0]
 have d0:decide ((1000:Int)<l.length)=false:=dcF h0
 have d0':decide ((l.length:Int) > 1000)=false:=d0
 refine zrs ?_
 repeat'(first|(simp -implicitDefEqProofs only[*,List.length_map,zr,seval,reduceIte,reduceCtorEq])|(apply zk<;>intro hc)|(refine zp ?_)|(refine zd ?_)|fail)
 clear d0 d0'
 refine QK (S:=Nat) 66 [0,4,13,14] [] (fun s=>[(15,.f (.int .i64 s)),(3,.f (.int .i64 (totF (l.take s))))]) (fun s=>[(12,1,AObj.map (setL ((l.take s).map ptF)))]) (fun s=>s≤l.length∧∀ m,m<s→Nw l m=0) (fun s=>l.length - s) (0) [] ?_ ?_ fun s hs=> ?_
 ·exact⟨Nat.zero_le _,fe_0⟩
 ·refine wk_i ?_ ?_<;>simp only[List.take_zero,zw,seval,reduceIte,reduceCtorEq]
  all_goals rfl
 obtain⟨hs,hall⟩:=hs
 rcases Nat.lt_or_ge s l.length with hlt|hge
 ·obtain⟨x,hx⟩:=QH hlt
  have h4:=XU hlt hl
  have hE:=Nv hx
  have h2:=lt_t hlt
  have h6:=dec64' hlt hl
  obtain⟨y,hy,hf⟩:=QBu hx
  rw[hf]at hE
  clear hf
  have hxm:=List.mem_of_getElem? hx
  have hxb:=hB.out x hxm
  have kP:=IsPath_f (ptF x) (by show((x.1.toArray.size:Nat):Int)≤_;rw[List.size_toArray];omega) (hW.out x hxm)
  have hbd:=totF_bd hall hs
  have w1:IntKind.i64.wrap (totF (l.take s)+(x.2.2.length:Int))=totF (l.take (s+1)):=by rw[QAS hx,QR]<;>omega
  have hm2:mSet (ptF x) (.bool true) (setL ((l.take s).map ptF))=setL ((l.take (s+1)).map ptF):=by rw[List.take_add_one,hx,List.map_append,setL_snoc];rfl
  clear hbd hxb
  generalize hT2:totF (l.take (s+1))=T2 at*
  replace hT2:=hide hT2
  generalize hM2:setL ((l.take (s+1)).map ptF)=M2 at*
  replace hM2:=hide hM2
  obtain⟨xp,xr,xb⟩:=x
  obtain⟨yp,yr,yb⟩:=y
  replace hE:Nw l s=if Vw (bs xp)=true then(if (100000:Int)<xb.length then 2 else(if decide ((0:Int)<(s:Int))=true then(if (strLt (bs xp) (bs yp)||decide (bs xp=bs yp))=true then 8 else 0)else 0))else 3:=hE
  replace kP:FRet Tryz.prog 32 [.f (.str (bs xp))] [.c (.v (.bool (Vw (bs xp))))]:=kP
  replace hm2:mSet (bs xp) (.bool true) (setL ((l.take s).map ptF))=M2:=hm2
  replace hxm:=hide hxm
  by_cases he:Vw (bs xp)=true
  ·rw[he]at kP
   rw[if_pos he]at hE
   by_cases hg:(100000:Int)<xb.length
   ·rw[if_pos hg]at hE
    have dg:decide ((100000:Int)<(xb.length:Int))=true:=dcT hg
    have dg':decide ((xb.length:Int) > 100000)=true:=dg
    rw[UL hall hlt (by rw[hE];decide),hE,if_pos (by decide)]
    replace hg:=hide hg
    replace he:=hide he
    clear hall hm2
    refine zrs ?_
    repeat'(first|(simp -implicitDefEqProofs only[*,List.getElem?_map,Option.map_some,fFt,List.length_map,frB,zr,seval,reduceIte,reduceCtorEq])|(apply zk<;>intro hc)|(refine zp ?_)|(refine zd ?_)|(refine cP (kP) ?_)|(refine cD (kP) ?_)|(refine cF (kP) ?_)|fail)
    exact VO
   ·rw[if_neg hg]at hE
    have dg:decide ((100000:Int)<(xb.length:Int))=false:=dcF hg
    have dg':decide ((xb.length:Int) > 100000)=false:=dg
    clear dg'
    replace hg:=hide hg
    replace he:=hide he
    refine zrs ?_
    repeat'(first|(simp -implicitDefEqProofs only[*,List.getElem?_map,Option.map_some,fFt,List.length_map,frB,zr,seval,reduceIte,reduceCtorEq])|(apply zk<;>intro hc)|(refine zp ?_)|(refine zd ?_)|(refine cP (kP) ?_)|(refine cD (kP) ?_)|(refine cF (kP) ?_)|fail)
    all_goals try simp only[List.length_map]at*
    all_goals try simp only[decide_eq_true_eq,decide_eq_false_iff_not]at*
    all_goals simp only[*,Int.reduceEq,Int.reduceNe,if_true,if_false,ne_eq,not_true_eq_false,not_false_eq_true,reduceIte,Bool.false_eq_true,Bool.true_and,Bool.and_true,Bool.false_and,Bool.and_false,Bool.not_true,Bool.not_false,Bool.true_or,Bool.or_true,Bool.false_or,Bool.or_false,decide_true,decide_false,reduceCtorEq]at hE
    all_goals first
     | exact Xp (by rw[UL hall hlt (by rw[hE];decide),hE];rfl)
     | exact Xp (by rw[UL hall hlt (by rw[hE];assumption),hE];rfl)
     |(refine⟨s+1,⟨hlt,QB6 hall hE⟩,by omega,?_⟩;rw[hM2.out,hT2.out];refine wk_i ?_ ?_<;>simp only[zw,seval,reduceIte,reduceCtorEq])
  ·have he':Vw (bs xp)=false:=by simpa using he
   rw[he']at kP
   rw[if_neg he]at hE
   rw[UL hall hlt (by rw[hE];decide),hE,if_pos (by decide)]
   replace he:=hide he
   clear hall hm2
   refine zrs ?_
   repeat'(first|(simp -implicitDefEqProofs only[*,List.getElem?_map,Option.map_some,fFt,List.length_map,zr,seval,reduceIte,reduceCtorEq])|(apply zk<;>intro hc)|(refine zp ?_)|(refine zd ?_)|(refine cP (kP) ?_)|(refine cD (kP) ?_)|(refine cF (kP) ?_)|fail)
   exact VO
 ·obtain rfl:s=l.length:=by omega
  rw[QAC hall,if_neg (by simp)]
  have h2:=lt_f hge
  have h3:=List.take_length (l:=l)
  clear hall
  refine QP 10 _ _ _ _ ?_
  repeat'(first|(simp -implicitDefEqProofs only[*,List.length_map,zr,seval,reduceIte,reduceCtorEq])|(apply zk<;>intro hc)|(refine zp ?_)|(refine zd ?_)|fail)
  refine Kx [] (nw:=[]) (n:=66) (el:=[(0,.f (.fr 3 (l.map fFt))),(3,.f (.int .i64 (totF l))),(4,.f (.fm (setL (l.map ptF))))]) (hl:=[]) rfl ?_ ?_
  ·refine wk_i ?_ ?_<;>simp only[so_mf,mapOfH_some,so_ptf,so_cc,so_ff',cellsOf_some,List.drop_zero,List.take_succ_cons,List.take_zero,Nat.zero_add,setL,zw,seval,reduceIte,reduceCtorEq]
  refine zrs ?_
  repeat'(first|(simp -implicitDefEqProofs only[*,List.length_map,zr,seval,reduceIte,reduceCtorEq])|(apply zk<;>intro hc)|(refine zp ?_)|(refine zd ?_)|fail)
  refine QK (S:=Nat) 66 [3,4,53,54] [] (fun s=>[(55,.f (.int .i64 s))]) (fun s=>[]) (fun s=>s≤l.length∧∀ (m:Nat) x,m<s→l[m]? = some x→Nz (l.map ptF) (ptF x)=false) (fun s=>l.length - s) (0) [] ?_ ?_ fun s hs=> ?_
  ·exact⟨Nat.zero_le _,fun m x h=>absurd h (Nat.not_lt_zero _)⟩
  ·refine wk_i ?_ ?_<;>simp only[zw,seval,reduceIte,reduceCtorEq]
  obtain⟨hs2,hinv⟩:=hs
  clear h2 hge
  rcases Nat.lt_or_ge s l.length with hlt|hge
  ·obtain⟨x,hx⟩:=QH hlt
   have h4:=XU hlt hl
   have h2:=lt_t hlt
   have hxb:=hB.out x (List.mem_of_getElem? hx)
   have k:=clashes_f (l.map ptF) (ptF x) (by show((x.1.toArray.size:Nat):Int)≤_;rw[List.size_toArray];omega)
   cases hc:Nz (l.map ptF) (ptF x)with
   | true=>
    rw[hc]at k
    rw[if_pos (List.any_eq_true.2 ⟨x,List.mem_of_getElem? hx,hc⟩)]
    obtain⟨xp,xr,xb⟩:=x
    replace k:FRet Tryz.prog 33 [.f (.fm (setL (l.map ptF))),.f (.str (bs xp))] [.c (.v (.bool true))]:=k
    clear hinv hxb hc
    refine zrs ?_
    repeat'(first|(simp -implicitDefEqProofs only[*,List.getElem?_map,Option.map_some,fFt,zr,seval,reduceIte,reduceCtorEq])|(apply zk<;>intro hc)|(refine zp ?_)|(refine zd ?_)|(refine cP (k) ?_)|(refine cD (k) ?_)|(refine cF (k) ?_)|fail)
    exact VO
   | false=>
    rw[hc]at k
    have hstep:=hide (show ∀ (m:Nat) y,m<s+1→l[m]? = some y→Nz (l.map ptF) (ptF y)=false from fun m y hm hy=>by
     rcases Nat.lt_succ_iff_lt_or_eq.1 hm with h|rfl
     ·exact hinv m y h hy
     ·rw[hx]at hy;obtain rfl:=Option.some.inj hy;exact hc)
    obtain⟨xp,xr,xb⟩:=x
    replace k:FRet Tryz.prog 33 [.f (.fm (setL (l.map ptF))),.f (.str (bs xp))] [.c (.v (.bool false))]:=k
    clear hinv hxb hc
    refine zrs ?_
    repeat'(first|(simp -implicitDefEqProofs only[*,List.getElem?_map,Option.map_some,fFt,zr,seval,reduceIte,reduceCtorEq])|(apply zk<;>intro hc)|(refine zp ?_)|(refine zd ?_)|(refine cP (k) ?_)|(refine cD (k) ?_)|(refine cF (k) ?_)|fail)
    refine⟨s+1,⟨hlt,hstep.out⟩,by omega,?_⟩
    refine wk_i ?_ ?_<;>simp only[zw,seval,reduceIte,reduceCtorEq]
  ·obtain rfl:s=l.length:=by omega
   have h2:=lt_f hge
   rw[if_neg (fun h=>by
    obtain⟨x,hx,hc⟩:=List.any_eq_true.1 h
    obtain⟨m,hm⟩:=List.mem_iff_getElem?.1 hx
    rw[hinv m x (List.getElem?_eq_some_iff.1 hm).1 hm]at hc
    cases hc)]
   clear hinv
   by_cases ht:2000000<totF l
   ·have dt:decide (2000000<totF l)=true:=dcT ht
    have dt':decide (totF l > 2000000)=true:=dt
    rw[if_pos ht]
    generalize totF l=T at*
    replace ht:=hide ht
    refine zrs ?_
    repeat'(first|(simp -implicitDefEqProofs only[*,zr,seval,reduceIte,reduceCtorEq])|(apply zk<;>intro hc)|(refine zp ?_)|(refine zd ?_)|fail)
    exact VO
   ·have dt:decide (2000000<totF l)=false:=dcF ht
    have dt':decide (totF l > 2000000)=false:=dt
    rw[if_neg ht]
    generalize totF l=T at*
    replace ht:=hide ht
    refine zrs ?_
    repeat'(first|(simp -implicitDefEqProofs only[*,zr,seval,reduceIte,reduceCtorEq])|(apply zk<;>intro hc)|(refine zp ?_)|(refine zd ?_)|fail)
    exact VO
end Go.Proofs.YtjfchihkhpinmaaGreatDoor
