/-
  The text of a directory, walked. No statement of the seat is proved here; no conditions.
-/
import Derived.Test.YtjfchihkhpinmaaGreatDoorTtC
import Derived.Test.YtjfchihkhpinmaaGreatDoorPtr
import Derived.Lib.Join
namespace Go.Proofs.YtjfchihkhpinmaaGreatDoor
open Go.RowKit Go.Shelf
set_option linter.unusedVariables false
set_option linter.unusedSimpArgs false
set_option maxRecDepth 100000

def fNd:Nd→List FV
 | (n,.inl f)=>[.str (bs n),.fp (fFt f),.nil]
 | (n,.inr fs)=>[.str (bs n),.lit (.pointer none),QY fs]
def Nu (l:List Nd):FV:= .fr 3 (l.map fNd)
def txL (tx:List FT→List UInt8) (L:List Nd):List UInt8:=L.flatMap (Xm digV tx)
theorem Jd {tx:List FT→List UInt8}{L:List Nd}{s:Nat}{d:Nd}(h:L[s]? = some d):txL tx (L.take (s+1))=txL tx (L.take s)++Xm digV tx d:=by
 unfold txL
 rw[List.take_add_one,h,List.flatMap_append]
 show _++(Xm digV tx d++ [])=_
 rw[List.append_nil]
theorem JZ (b:List UInt8):(digV b).size=16:=by
 rw[QAF]
 show((List.range 16).map _).toArray.size=16
 simp
theorem Kt (b:List UInt8):(digV b).data.toList.length=16:=by
 have:=JZ b
 show(digV b).data.toList.length=16
 rw[Array.length_toList];exact this
theorem QA9 {tx:List FT→List UInt8}{d:Nd}(h:d.1.length≤1000):(Xm digV tx d).length≤10000:=by
 obtain⟨n,f|fs⟩:=d
 ·have:=Kt f.2.2
  simp only[Xm,JW,List.length_append,List.length_cons,List.length_nil]at h ⊢
  omega
 ·have:=Kt (tx fs)
  simp only[Xm,Mh,List.length_append,List.length_cons,List.length_nil]at h ⊢
  omega
theorem Mu {tx:List FT→List UInt8}{L:List Nd}(h:∀ d∈L,d.1.length≤1000):∀ {s:Nat},s≤L.length→(txL tx (L.take s)).length≤10000*s
 | 0,_=>Nat.le_refl _
 | s+1,hs=>by
  obtain⟨d,hd⟩:=QH (l:=L) (i:=s) (by omega)
  rw[Jd hd,List.length_append]
  have:=QA9 (tx:=tx) (h d (List.mem_of_getElem? hd))
  have:=Mu (tx:=tx) h (by omega:s≤L.length)
  omega
theorem KD {A B:List UInt8}{S:ByteArray}(h:B=A++S.data.toList):(A.map fun b=>FV.int .u8 b.toNat).map AV.f++QBb S=(B.map fun b=>FV.int .u8 b.toNat).map AV.f:=by
 rw[h,List.map_append,List.map_append]
 unfold QBb
 rw[List.map_map,List.map_map];rfl
theorem Oq {A B:List UInt8}{S:ByteArray}(h:B=A++S.data.toList):A.length+S.size=B.length:=by
 rw[h,List.length_append];simp
set_option maxHeartbeats 4000000 in
theorem QBO (L:List Nd) (tx:List FT→List UInt8) (hL:L.length≤1000000) (hf:∀ n f,(n,.inl f)∈L→f.2.2.length≤140737488355328∧n.length≤1000) (hd:∀ n fs,(n,.inr fs)∈L→n.length≤1000∧(tx fs).length≤140737488355328∧FRet Tryz.prog 34 [.f (QY fs)] [.c (.v (Nu (nds fs)))]∧FRet Tryz.prog 36 [.f (Nu (nds fs))] [.c (.v (frB (tx fs)))]) :
  FRet Tryz.prog 36 [.f (Nu L)] [.c (.own 1 (txL tx L).length ((txL tx L).map fun b=> .int .u8 b.toNat))]:=by
 have hnm:∀ d∈L,d.1.length≤1000:=fun d hdm=>by
  obtain⟨n,f|fs⟩:=d
  ·exact(hf n f hdm).2
  ·exact(hd n fs hdm).1
 have hF:=hide hf
 have hTL:=hide (show ∀ s,s≤L.length→(txL tx (L.take s)).length≤10000*s from fun s=>Mu hnm)
 clear hnm
 have hD:=hide hd
 clear hf hd
 refine FCall.of_ax Ka ?_
 dsimp only[jm,ji,jf,jl,jL,jn,je,jx,jT,jC,jB,jq,jt,ju,jA,km,kf,kl,kn,kx,UH,Nu]
 refine zrs ?_
 repeat'(first|(simp -implicitDefEqProofs only[*,List.length_map,zr,seval,reduceIte,reduceCtorEq])|(apply zk<;>intro hc)|(refine zp ?_)|(refine zd ?_)|fail)
 refine QK (S:=Nat) 53 [7,8] [] (fun s=>[(9,.f (.int .i64 s)),(3,.sl 60900 1 1 0 (txL tx (L.take s)).length)]) (fun s=>[(60900,1,AObj.cells (((txL tx (L.take s)).map fun b=>FV.int .u8 b.toNat).map AV.f))]) (fun s=>s≤L.length) (fun s=>L.length - s) (0) [60900] ?_ ?_ fun s hs=> ?_
 ·exact Nat.zero_le _
 ·refine wk_i ?_ ?_<;>simp only[List.take_zero,zw,seval,reduceIte,reduceCtorEq]
  all_goals rfl
 rcases Nat.lt_or_ge s L.length with hlt|hge
 ·obtain⟨d,hx⟩:=QH hlt
  have h4:=XU hlt (by omega)
  have h2:=lt_t hlt
  have hT:=hTL.out s hs
  obtain⟨n,f|fs⟩:=d
  ·obtain⟨hb1,hb2⟩:=hF.out n f (List.mem_of_getElem? hx)
   have kD:=Ju f.2.2 (by omega)
   obtain⟨fp,fr,fb⟩:=f
   dsimp only at kD hb1
   have hdz:=JZ fb
   generalize hdv:digV fb=dv at*
   replace hdv:=hide hdv
   have hNz:(bs n).size=n.length:=by show n.toArray.size=_;rw[List.size_toArray]
   generalize hN:bs n=N at*
   cases fr with
   | true=>
    have z0:(⟨#[102,105,108,101,32]⟩:ByteArray).size=5:=rfl
    have z1:(⟨#[10]⟩:ByteArray).size=1:=rfl
    have z2:(⟨#[120]⟩:ByteArray).size=1:=rfl
    have z3:(⟨#[32]⟩:ByteArray).size=1:=rfl
    have l0:=eq_true (show(⟨#[102,105,108,101,32]⟩:ByteArray).size+N.size≤9223372036854775807 by simp only[ByteArray.size_append,z0,z1,z2,z3];omega)
    have l1:=eq_true (show((⟨#[102,105,108,101,32]⟩:ByteArray)++N).size+(⟨#[32]⟩:ByteArray).size≤9223372036854775807 by simp only[ByteArray.size_append,z0,z1,z2,z3];omega)
    have l2:=eq_true (show(((⟨#[102,105,108,101,32]⟩:ByteArray)++N)++(⟨#[32]⟩:ByteArray)).size+dv.size≤9223372036854775807 by simp only[ByteArray.size_append,z0,z1,z2,z3];omega)
    have l3:=eq_true (show((((⟨#[102,105,108,101,32]⟩:ByteArray)++N)++(⟨#[32]⟩:ByteArray))++dv).size+(⟨#[32]⟩:ByteArray).size≤9223372036854775807 by simp only[ByteArray.size_append,z0,z1,z2,z3];omega)
    have l4:=eq_true (show(((((⟨#[102,105,108,101,32]⟩:ByteArray)++N)++(⟨#[32]⟩:ByteArray))++dv)++(⟨#[32]⟩:ByteArray)).size+(⟨#[120]⟩:ByteArray).size≤9223372036854775807 by simp only[ByteArray.size_append,z0,z1,z2,z3];omega)
    have l5:=eq_true (show((((((⟨#[102,105,108,101,32]⟩:ByteArray)++N)++(⟨#[32]⟩:ByteArray))++dv)++(⟨#[32]⟩:ByteArray))++(⟨#[120]⟩:ByteArray)).size+(⟨#[10]⟩:ByteArray).size≤9223372036854775807 by simp only[ByteArray.size_append,z0,z1,z2,z3];omega)
    have zz:(((((((⟨#[102,105,108,101,32]⟩:ByteArray)++N)++(⟨#[32]⟩:ByteArray))++dv)++(⟨#[32]⟩:ByteArray))++(⟨#[120]⟩:ByteArray))++(⟨#[10]⟩:ByteArray)).size≤10000:=by simp only[ByteArray.size_append,z0,z1,z2,z3];omega
    have zl:=zz
    clear z0 z1 z2 z3
    have hlt2:Xm digV tx (n,.inl (fp,true,fb))=(((((((⟨#[102,105,108,101,32]⟩:ByteArray)++N)++(⟨#[32]⟩:ByteArray))++dv)++(⟨#[32]⟩:ByteArray))++(⟨#[120]⟩:ByteArray))++(⟨#[10]⟩:ByteArray)).data.toList:=by
     rw[← hN,← hdv.out];simp [Xm,JW,bs]
    have hsn:=Jd (tx:=tx) hx
    have l9:=eq_true (show(txL tx (L.take s)).length+(((((((⟨#[102,105,108,101,32]⟩:ByteArray)++N)++(⟨#[32]⟩:ByteArray))++dv)++(⟨#[32]⟩:ByteArray))++(⟨#[120]⟩:ByteArray))++(⟨#[10]⟩:ByteArray)).size≤140737488355328 by omega)
    rw[hlt2]at hsn
    generalize hS:(((((((⟨#[102,105,108,101,32]⟩:ByteArray)++N)++(⟨#[32]⟩:ByteArray))++dv)++(⟨#[32]⟩:ByteArray))++(⟨#[120]⟩:ByteArray))++(⟨#[10]⟩:ByteArray))=S at hsn
    replace hS:=hide hS
    clear hT hlt2 hNz hdz hb1 hb2 zl zz
    refine zrs ?_
    repeat'(first|(simp -implicitDefEqProofs only[*,QE,List.getElem?_map,Option.map_some,fNd,fFt,frB,zr,seval,reduceIte,reduceCtorEq])|(apply zk<;>intro hc)|(refine zp ?_)|(refine zd ?_)|(refine cP (kD) ?_)|(refine cD (kD) ?_)|(refine cF (kD) ?_)|(refine cO (kD) ?_)|fail)
    refine⟨s+1,hlt,by omega,?_⟩
    rw[hS.out,KD hsn,Oq hsn]
    refine wk_i ?_ ?_<;>simp only[zw,seval,reduceIte,reduceCtorEq]
   | false=>
    have z0:(⟨#[102,105,108,101,32]⟩:ByteArray).size=5:=rfl
    have z1:(⟨#[10]⟩:ByteArray).size=1:=rfl
    have z2:(⟨#[32]⟩:ByteArray).size=1:=rfl
    have z3:(⟨#[45]⟩:ByteArray).size=1:=rfl
    have l0:=eq_true (show(⟨#[102,105,108,101,32]⟩:ByteArray).size+N.size≤9223372036854775807 by simp only[ByteArray.size_append,z0,z1,z2,z3];omega)
    have l1:=eq_true (show((⟨#[102,105,108,101,32]⟩:ByteArray)++N).size+(⟨#[32]⟩:ByteArray).size≤9223372036854775807 by simp only[ByteArray.size_append,z0,z1,z2,z3];omega)
    have l2:=eq_true (show(((⟨#[102,105,108,101,32]⟩:ByteArray)++N)++(⟨#[32]⟩:ByteArray)).size+dv.size≤9223372036854775807 by simp only[ByteArray.size_append,z0,z1,z2,z3];omega)
    have l3:=eq_true (show((((⟨#[102,105,108,101,32]⟩:ByteArray)++N)++(⟨#[32]⟩:ByteArray))++dv).size+(⟨#[32]⟩:ByteArray).size≤9223372036854775807 by simp only[ByteArray.size_append,z0,z1,z2,z3];omega)
    have l4:=eq_true (show(((((⟨#[102,105,108,101,32]⟩:ByteArray)++N)++(⟨#[32]⟩:ByteArray))++dv)++(⟨#[32]⟩:ByteArray)).size+(⟨#[45]⟩:ByteArray).size≤9223372036854775807 by simp only[ByteArray.size_append,z0,z1,z2,z3];omega)
    have l5:=eq_true (show((((((⟨#[102,105,108,101,32]⟩:ByteArray)++N)++(⟨#[32]⟩:ByteArray))++dv)++(⟨#[32]⟩:ByteArray))++(⟨#[45]⟩:ByteArray)).size+(⟨#[10]⟩:ByteArray).size≤9223372036854775807 by simp only[ByteArray.size_append,z0,z1,z2,z3];omega)
    have zz:(((((((⟨#[102,105,108,101,32]⟩:ByteArray)++N)++(⟨#[32]⟩:ByteArray))++dv)++(⟨#[32]⟩:ByteArray))++(⟨#[45]⟩:ByteArray))++(⟨#[10]⟩:ByteArray)).size≤10000:=by simp only[ByteArray.size_append,z0,z1,z2,z3];omega
    have zl:=zz
    clear z0 z1 z2 z3
    have hlt2:Xm digV tx (n,.inl (fp,false,fb))=(((((((⟨#[102,105,108,101,32]⟩:ByteArray)++N)++(⟨#[32]⟩:ByteArray))++dv)++(⟨#[32]⟩:ByteArray))++(⟨#[45]⟩:ByteArray))++(⟨#[10]⟩:ByteArray)).data.toList:=by
     rw[← hN,← hdv.out];simp [Xm,JW,bs]
    have hsn:=Jd (tx:=tx) hx
    have l9:=eq_true (show(txL tx (L.take s)).length+(((((((⟨#[102,105,108,101,32]⟩:ByteArray)++N)++(⟨#[32]⟩:ByteArray))++dv)++(⟨#[32]⟩:ByteArray))++(⟨#[45]⟩:ByteArray))++(⟨#[10]⟩:ByteArray)).size≤140737488355328 by omega)
    rw[hlt2]at hsn
    generalize hS:(((((((⟨#[102,105,108,101,32]⟩:ByteArray)++N)++(⟨#[32]⟩:ByteArray))++dv)++(⟨#[32]⟩:ByteArray))++(⟨#[45]⟩:ByteArray))++(⟨#[10]⟩:ByteArray))=S at hsn
    replace hS:=hide hS
    clear hT hlt2 hNz hdz hb1 hb2 zl zz
    refine zrs ?_
    repeat'(first|(simp -implicitDefEqProofs only[*,QE,List.getElem?_map,Option.map_some,fNd,fFt,frB,zr,seval,reduceIte,reduceCtorEq])|(apply zk<;>intro hc)|(refine zp ?_)|(refine zd ?_)|(refine cP (kD) ?_)|(refine cD (kD) ?_)|(refine cF (kD) ?_)|(refine cO (kD) ?_)|fail)
    refine⟨s+1,hlt,by omega,?_⟩
    rw[hS.out,KD hsn,Oq hsn]
    refine wk_i ?_ ?_<;>simp only[zw,seval,reduceIte,reduceCtorEq]
  ·obtain⟨hb2,hb1,kN,kT⟩:=hD.out n fs (List.mem_of_getElem? hx)
   have kD:=Ju (tx fs) (by omega)
   have hdz:=JZ (tx fs)
   generalize hdv:digV (tx fs)=dv at*
   replace hdv:=hide hdv
   have hNz:(bs n).size=n.length:=by show n.toArray.size=_;rw[List.size_toArray]
   generalize hN:bs n=N at*
   have z0:(⟨#[100,105,114,32]⟩:ByteArray).size=4:=rfl
   have z1:(⟨#[10]⟩:ByteArray).size=1:=rfl
   have z2:(⟨#[32]⟩:ByteArray).size=1:=rfl
   have l0:=eq_true (show(⟨#[100,105,114,32]⟩:ByteArray).size+N.size≤9223372036854775807 by simp only[ByteArray.size_append,z0,z1,z2];omega)
   have l1:=eq_true (show((⟨#[100,105,114,32]⟩:ByteArray)++N).size+(⟨#[32]⟩:ByteArray).size≤9223372036854775807 by simp only[ByteArray.size_append,z0,z1,z2];omega)
   have l2:=eq_true (show(((⟨#[100,105,114,32]⟩:ByteArray)++N)++(⟨#[32]⟩:ByteArray)).size+dv.size≤9223372036854775807 by simp only[ByteArray.size_append,z0,z1,z2];omega)
   have l3:=eq_true (show((((⟨#[100,105,114,32]⟩:ByteArray)++N)++(⟨#[32]⟩:ByteArray))++dv).size+(⟨#[10]⟩:ByteArray).size≤9223372036854775807 by simp only[ByteArray.size_append,z0,z1,z2];omega)
   have zz:(((((⟨#[100,105,114,32]⟩:ByteArray)++N)++(⟨#[32]⟩:ByteArray))++dv)++(⟨#[10]⟩:ByteArray)).size≤10000:=by simp only[ByteArray.size_append,z0,z1,z2];omega
   have zl:=zz
   clear z0 z1 z2
   have hlt2:Xm digV tx (n,.inr fs)=(((((⟨#[100,105,114,32]⟩:ByteArray)++N)++(⟨#[32]⟩:ByteArray))++dv)++(⟨#[10]⟩:ByteArray)).data.toList:=by
    rw[← hN,← hdv.out];simp [Xm,Mh,bs]
   have hsn:=Jd (tx:=tx) hx
   have l9:=eq_true (show(txL tx (L.take s)).length+(((((⟨#[100,105,114,32]⟩:ByteArray)++N)++(⟨#[32]⟩:ByteArray))++dv)++(⟨#[10]⟩:ByteArray)).size≤140737488355328 by omega)
   rw[hlt2]at hsn
   generalize hS:(((((⟨#[100,105,114,32]⟩:ByteArray)++N)++(⟨#[32]⟩:ByteArray))++dv)++(⟨#[10]⟩:ByteArray))=S at hsn
   replace hS:=hide hS
   clear hT hlt2 hNz hdz hb1 hb2 zl zz
   generalize hfF:QY fs=F at*
   generalize Nu (nds fs)=NF at*
   generalize tx fs=TF at*
   replace kN:=hide kN
   replace kT:=hide kT
   replace kD:=hide kD
   refine zrs ?_
   repeat'(first|(simp -implicitDefEqProofs only[*,QE,List.getElem?_map,Option.map_some,fNd,zr,seval,reduceIte,reduceCtorEq])|(apply zk<;>intro hc)|(refine zp ?_)|(refine zd ?_)|(refine cP (kN.out) ?_)|(refine cD (kN.out) ?_)|(refine cF (kN.out) ?_)|(refine cO (kN.out) ?_)|(refine cP (kT.out) ?_)|(refine cD (kT.out) ?_)|(refine cF (kT.out) ?_)|(refine cO (kT.out) ?_)|(refine cP (kD.out) ?_)|(refine cD (kD.out) ?_)|(refine cF (kD.out) ?_)|(refine cO (kD.out) ?_)|fail)
   refine⟨s+1,hlt,by omega,?_⟩
   rw[hS.out,KD hsn,Oq hsn]
   refine wk_i ?_ ?_<;>simp only[zw,seval,reduceIte,reduceCtorEq]
 ·obtain rfl:s=L.length:=by omega
  have h2:=lt_f hge
  have h3:=List.take_length (l:=L)
  refine zrs ?_
  repeat'(first|(simp -implicitDefEqProofs only[*,zr,seval,reduceIte,reduceCtorEq])|(apply zk<;>intro hc)|(refine zp ?_)|(refine zd ?_)|fail)
  exact ret_oe (cs':=(txL tx L).map fun b=>FV.int .u8 b.toNat) rfl rfl rfl (by simp)
end Go.Proofs.YtjfchihkhpinmaaGreatDoor
namespace Go.Proofs.YtjfchihkhpinmaaGreatDoor
open Go.RowKit Go.Shelf
set_option linter.unusedVariables false
set_option linter.unusedSimpArgs false
set_option maxRecDepth 100000

theorem Yk {a b:ByteArray}(h:a.data.toList=b.data.toList):a=b:=My.1 h
def spl (c:UInt8):List UInt8→List (List UInt8)
 | []=>[[]]
 | b::l=>if b=c then []::spl c l else match spl c l with
  | x::r=>(b::x)::r
  | []=>[[b]]
theorem Kf {c:UInt8} : ∀ {x:List UInt8},c∉x→spl c x = [x]
 | [],_=>rfl
 | b::x,h=>by
  rw[spl,if_neg (show ¬ b=c from fun e=>h (e▸List.mem_cons_self)),Kf fun e=>h (List.mem_cons_of_mem _ e)]
theorem OD {c:UInt8}(r:List UInt8):∀ {x:List UInt8},c∉x→spl c (x++c::r)=x::spl c r
 | [],_=>by rw[List.nil_append,spl,if_pos rfl]
 | b::x,h=>by
  rw[List.cons_append,spl,if_neg (show ¬ b=c from fun e=>h (e▸List.mem_cons_self)),OD r fun e=>h (List.mem_cons_of_mem _ e)]
theorem Ko (x y:List UInt8) (r:List (List UInt8)) (c:UInt8):Lib.join (x::y::r) [c]=x++c::Lib.join (y::r) [c]:=by
 rw[Lib.join_cons,Lib.join_cons]
 simp [Lib.joinTail]
theorem QCZ (c:UInt8):∀ {ws:List (List UInt8)},ws≠[]→(∀ x∈ws,c∉x)→spl c (Lib.join ws [c])=ws
 | [],h,_=>absurd rfl h
 | [x],_,h=>by rw[Lib.join_one,Kf (h x List.mem_cons_self)]
 | x::y::r,_,h=>by
  rw[Ko,OD _ (h x List.mem_cons_self),QCZ c (by simp) fun z hz=>h z (List.mem_cons_of_mem _ hz)]
theorem ixb_split {l:List UInt8}{c:UInt8}{i:Nat}(h:Lib.indexByte l c=i):l=l.take i++c::l.drop (i+1)∧c∉l.take i:=by
 obtain⟨h1,h2⟩:=Lib.indexByte_some h
 obtain⟨hlt,he⟩:=List.getElem?_eq_some_iff.1 h1
 refine⟨?_,fun hm=> ?_⟩
 ·have:=List.take_append_drop i l
  rw[List.drop_eq_getElem_cons hlt,he]at this
  exact this.symm
 ·obtain⟨k,hk⟩:=List.getElem?_of_mem hm
  have hk2:=(List.getElem?_eq_some_iff.1 hk).1
  rw[List.length_take]at hk2
  rw[List.getElem?_take_of_lt (by omega)]at hk
  exact h2 k (by omega) hk
theorem ixb_none {l:List UInt8}{c:UInt8}(h:Lib.indexByte l c = -1):c∉l:=fun hm=>by
 obtain⟨k,hk⟩:=List.getElem?_of_mem hm
 exact Lib.indexByte_none h k hk
theorem MU (c:UInt8):∀ (k:Nat) (l:List UInt8),l.count c=k→Lib.splitK [c] 0 k l=spl c l
 | 0,l,h=>by
  rw[Lib.splitK,Kf (List.count_eq_zero.1 h)]
 | k+1,l,h=>by
  rw[Lib.splitK,Lib.index_one]
  have hge:=Lib.indexByte_ge l c
  by_cases hm:Lib.indexByte l c = -1
  ·have h0:=List.count_eq_zero.2 (ixb_none hm)
   omega
  ·obtain⟨i,hi⟩:∃ i:Nat,Lib.indexByte l c=i:=⟨(Lib.indexByte l c).toNat,by omega⟩
   have hb : ¬ (Lib.indexByte l c == -1)=true:=fun e=>hm (beq_iff_eq.1 e)
   rw[if_neg hb,hi]
   show l.take (i+0)::Lib.splitK [c] 0 k (l.drop (i+1))=_
   obtain⟨h1,h2⟩:=ixb_split hi
   have hc:(l.drop (i+1)).count c=k:=by
    rw[h1,List.count_append,List.count_cons_self,List.count_eq_zero.2 h2]at h
    omega
   rw[Nat.add_zero,MU c k _ hc]
   conv=>rhs;rw[h1]
   rw[OD _ h2]
theorem Wb (s:ByteArray) (c:UInt8):(Xo s c).map (·.data.toList)=spl c s.data.toList:=by
 unfold Xo
 rw[Lib.splitB_data]
 refine MU c _ _ ?_
 show s.data.toList.count c=Lib.count s.data.toList [c]
 rw[Lib.count_one]
theorem Us:∀ {a b:List ByteArray},a.map (·.data.toList)=b.map (·.data.toList)→a=b
 | [],[],_=>rfl
 | [],_::_,h=>by simp at h
 | _::_,[],h=>by simp at h
 | x::a,y::b,h=>by
  rw[List.map_cons,List.map_cons]at h
  obtain⟨h1,h2⟩:=List.cons.inj h
  rw[Yk h1,Us h2]
def Jw (ws:List ByteArray):ByteArray:=⟨(Lib.join (ws.map (·.data.toList)) [32]).toArray⟩
theorem QDK {ws:List ByteArray}(h:ws≠[]) (hw:∀ x∈ws,(32:UInt8)∉x.data.toList):Xo (Jw ws) 32=ws:=by
 apply Us
 rw[Wb]
 show spl 32 (Lib.join (ws.map (·.data.toList)) [32])=_
 exact QCZ 32 (fun e=>h (List.map_eq_nil_iff.1 e)) fun x hx=>by
  obtain⟨y,hy,rfl⟩:=List.mem_map.1 hx
  exact hw y hy
theorem cut_hit {s:ByteArray}{c:UInt8}{x r:List UInt8}(h:s.data.toList=x++c::r) (hx:c∉x):cutS s c=(⟨x.toArray⟩,⟨r.toArray⟩,true):=by
 have hi:ixB s c=x.length:=by
  show Lib.indexByte s.data.toList c=x.length
  rw[h]
  have key:∀ x:List UInt8,c∉x→Lib.indexByte (x++c::r) c=x.length:=fun x=>by
   induction x with
   | nil=>intro _;simp [Lib.indexByte]
   | cons b x ih=>
    intro hx
    have h1:=ih fun e=>hx (List.mem_cons_of_mem _ e)
    have hb:(b == c)=false:=beq_eq_false_iff_ne.2 fun e=>hx (e▸List.mem_cons_self)
    rw[List.cons_append,Lib.indexByte,hb,h1]
    have h2:((x.length:Int) == -1)=false:=beq_eq_false_iff_ne.2 (by omega)
    simp only[h2,Bool.false_eq_true,if_false,List.length_cons]
    omega
  exact key x hx
 unfold cutS
 rw[hi,if_pos (by omega)]
 have hsz:s.size=x.length+1+r.length:=by
  have:s.size=s.data.toList.length:=by simp
  rw[this,h,List.length_append,List.length_cons];omega
 have e1:s.extract 0 ((x.length:Int)).toNat=⟨x.toArray⟩:=by
  apply Yk
  rw[Int.toNat_natCast,Lib.extract_from_zero,h,List.take_left']
  rfl
 have e2:s.extract (((x.length:Int)).toNat+1) s.size=⟨r.toArray⟩:=by
  apply Yk
  rw[Int.toNat_natCast,Lib.extract_to_end,h,show x++c::r=(x++ [c])++r by simp,List.drop_left' (by simp)]
 rw[e1,e2]
theorem cut_none {s:ByteArray}{c:UInt8}(h:c∉s.data.toList):cutS s c=(s,⟨#[]⟩,false):=by
 unfold cutS
 rw[if_neg]
 intro hi
 obtain⟨k,hk⟩:∃ k:Nat,Lib.indexByte s.data.toList c=k:=⟨(Lib.indexByte s.data.toList c).toNat,(Int.toNat_of_nonneg hi).symm⟩
 exact h (List.mem_of_getElem? (Lib.indexByte_some hk).1)
theorem cut_L {p:List UInt8} : cutS (bs p) 47=match cutL p with
  | none=>(bs p,⟨#[]⟩,false)
  | some (n,r)=>(bs n,bs r,true):=by
 cases h:cutL p with
 | none=>exact cut_none (by show(47:UInt8)∉p;exact Jb.1 h)
 | some nr=>
  obtain⟨n,r⟩:=nr
  obtain⟨h1,h2⟩:=XP h
  exact cut_hit (s:=bs p) (x:=n) (r:=r) h1 h2
theorem QCY {PO:List UInt8→Prop} : ∀ (k:Nat) (p:List UInt8),p.length≤k→(∀ w∈spl 47 p,PO w)→PathO PO p
 | k,p,hk,h=>by
  cases hc:cutL p with
  | none=>
   have hn:=Jb.1 hc
   rw[Kf hn]at h
   exact .one p hn (h p (List.mem_singleton.2 rfl))
  | some nr=>
   obtain⟨n,r⟩:=nr
   obtain⟨rfl,h2⟩:=XP hc
   rw[OD r h2]at h
   cases k with
   | zero=>simp at hk
   | succ k=>
    simp only[List.length_append,List.length_cons]at hk
    exact .more n r h2 (h n List.mem_cons_self) (QCY k r (by omega) fun w hw=>h w (List.mem_cons_of_mem _ hw))
theorem QCX (c:UInt8):∀ {l:List UInt8}{w:List UInt8},w∈spl c l→w.length≤l.length
 | [],w,h=>by simp [spl]at h;rw[h];exact Nat.le_refl _
 | b::l,w,h=>by
  unfold spl at h
  split at h
  ·rcases List.mem_cons.1 h with rfl|h
   ·exact Nat.zero_le _
   ·have:=QCX c h;simp only[List.length_cons];omega
  ·split at h
   ·rename_i x r hx
    rcases List.mem_cons.1 h with rfl|h
    ·have:=QCX c (w:=x) (by rw[hx];exact List.mem_cons_self)
     simp only[List.length_cons];omega
    ·have:=QCX c (w:=w) (by rw[hx];exact List.mem_cons_of_mem _ h)
     simp only[List.length_cons];omega
   ·obtain rfl:=List.mem_singleton.1 h
    simp
theorem OC {p:ByteArray}{c:UInt8}{w:ByteArray}(h:w∈Xo p c):w.size≤p.size:=by
 have h1:w.data.toList∈spl c p.data.toList:=by rw[← Wb];exact List.mem_map.2 ⟨w,h,rfl⟩
 have:=QCX c h1
 simpa using this
def PO (w:List UInt8):Prop:=Xj (bs w)=true
theorem Nn {p:List UInt8}(h:Vw (bs p)=true):PathO PO p∧p.length≤200:=by
 unfold Vw at h
 simp only[Bool.and_eq_true,decide_eq_true_eq]at h
 refine⟨QCY p.length p (Nat.le_refl _) fun w hw=> ?_,by have h9:p.toArray.size≤200:=h.2.1;rwa [List.size_toArray]at h9⟩
 have h1:w∈(Xo (bs p) 47).map (·.data.toList):=by rw[Wb];exact hw
 obtain⟨x,hx,rfl⟩:=List.mem_map.1 h1
 exact List.all_eq_true.1 h.2.2 x hx
theorem QC7 {l:List FT}(h:ckF l=0):Gd PO l∧Short 201 l∧l.length≤1000∧(∀ x∈l,x.2.2.length≤100000)∧∀ x∈l,x.1.length≤200:=by
 unfold ckF at h
 split at h
 ·cases h
 rename_i h0
 split at h
 ·rename_i h1;exact absurd h h1
 rename_i h1
 split at h
 ·cases h
 rename_i h2
 have he:=fe_zero (Decidable.not_not.1 h1)
 have hx:∀ (i:Nat) x,l[i]? = some x→Vw (ptF x)=true∧x.2.2.length≤100000∧Zt l i (fun y=>if leS (ptF x) (ptF y)=true then 8 else 0)=0:=fun i x hi=>by
  have h3:=he i (List.getElem?_eq_some_iff.1 hi).1
  rw[Nv hi]at h3
  split at h3
  ·rename_i h4
   split at h3
   ·cases h3
   ·rename_i h5;exact⟨h4,by omega,h3⟩
  ·cases h3
 have hm:∀ x∈l,Vw (ptF x)=true∧x.2.2.length≤100000:=fun x hxm=>by
  obtain⟨i,hi⟩:=List.mem_iff_getElem?.1 hxm
  exact⟨(hx i x hi).1,(hx i x hi).2.1⟩
 have hR:QZ ptF l:=QAh fun i x y hxi hyi=>by
  have h3:=(hx (i+1) y hyi).2.2
  exact QBB (MX (p:=fun e=>leS (ptF y) (ptF e)) hxi (by decide) h3)
 refine⟨⟨?_,fun x hxm=>(Nn (hm x hxm).1).1,fun x hxm y hym hp=> ?_⟩,fun x hxm=>by have:=(Nn (hm x hxm).1).2;omega,by omega,fun x hxm=>(hm x hxm).2,fun x hxm=>(Nn (hm x hxm).1).2⟩
 ·rw[List.pairwise_iff_getElem]
  intro i j hi hj hij
  have:=hR i j _ _ hij (List.getElem?_eq_getElem hi) (List.getElem?_eq_getElem hj)
  rw[Vj]at this
  exact this
 ·refine h2 (List.any_eq_true.2 ⟨y,hym,List.any_eq_true.2 ⟨x.1.length,?_,?_⟩⟩)
  ·obtain⟨t,ht⟩:=hp
   rw[List.mem_range]
   show x.1.length<y.1.toArray.size
   rw[List.size_toArray,← ht];simp
  ·obtain⟨t,ht⟩:=hp
   rw[Bool.and_eq_true,decide_eq_true_eq,hasS_iff]
   refine⟨?_,List.mem_map.2 ⟨x,hxm,?_⟩⟩
   ·show y.1[x.1.length]? = some 47
    rw[← ht,List.append_assoc,List.getElem?_append_right (Nat.le_refl _),Nat.sub_self];rfl
   ·apply Yk
    rw[Lib.extract_from_zero]
    show x.1=y.1.take x.1.length
    rw[← ht,List.append_assoc,List.take_left']
    rfl
end Go.Proofs.YtjfchihkhpinmaaGreatDoor
