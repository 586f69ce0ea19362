/-
  The nodes of a directory are put in order. No statement of the seat is proved here; no conditions.
-/
import Derived.Test.YtjfchihkhpinmaaGreatDoorTtS
import Derived.Test.YtjfchihkhpinmaaGreatDoorSnC
namespace Go.Proofs.YtjfchihkhpinmaaGreatDoor
open Go.RowKit Go.Shelf
set_option linter.unusedVariables false
set_option linter.unusedSimpArgs false
set_option maxRecDepth 100000

def toNr:Nd→Nr
 | (n,.inl f)=>(bs n,.fp (fFt f),.nil)
 | (n,.inr fs)=>(bs n,.lit (.pointer none),QY fs)
theorem toNr_f:∀ d:Nd,fNr (toNr d)=fNd d
 | (_,.inl _)=>rfl
 | (_,.inr _)=>rfl
theorem MR:∀ d:Nd,(toNr d).1=bs d.1
 | (_,.inl _)=>rfl
 | (_,.inr _)=>rfl
theorem QCb (L:List Nd):rowF fNr (L.map toNr)=rowF fNd L:=by
 unfold rowF
 rw[List.map_map]
 congr 1
 exact List.map_congr_left fun d _=>toNr_f d
def ltNr (a b:Nr):Bool:=strLt a.1 b.1
theorem ltNr_to (a b:Nd):ltNr (toNr a) (toNr b)=ltN a b:=by
 unfold ltNr ltN
 rw[MR,MR,Vj]
theorem QCs (x:Nd):∀ L:List Nd,insT ltNr (toNr x) (L.map toNr)=(insS ltN x L).map toNr
 | []=>rfl
 | y::L=>by
  rw[List.map_cons,insT,insS,ltNr_to]
  split
  ·rfl
  ·rw[QCs x L,List.map_cons]
theorem QAZ:∀ L:List Nd,QW ltNr (L.map toNr)=(srtS ltN L).map toNr
 | []=>rfl
 | x::L=>by rw[List.map_cons,QW,QAZ L,QCs,srtS]
theorem nodesC_f (x y:Nr):FRet Tryz.prog 62 [.agg ((fNr x).map .f),.agg ((fNr y).map .f)] [.c (.v (.int .i64 (cmpB x.1 y.1)))]:=by
 refine FCall.of_ax Wv ?_
 dsimp only[jm,ji,jf,jl,jL,jn,je,jx,jT,jC,jB,jq,jt,ju,jA,km,kf,kl,kn,kx,JS,fNr]
 refine zrs ?_
 repeat'(first|(simp -implicitDefEqProofs only[*,zr,seval,reduceIte,reduceCtorEq])|(apply zk<;>intro hc)|(refine zp ?_)|(refine zd ?_)|(refine cP (Vm _ _) ?_)|(refine cD (Vm _ _) ?_)|(refine cF (Vm _ _) ?_)|fail)
 exact VO
theorem ordNr {l:List FT}(h:Gd PO l):OrdOn ltNr ((grp l).map toNr):=by
 have hn:=Ox h
 have hinj:∀ a∈grp l,∀ b∈grp l,a.1=b.1→a=b:=fun a ha b hb e=>by
  obtain⟨i,hi⟩:=List.mem_iff_getElem?.1 ha
  obtain⟨j,hj⟩:=List.mem_iff_getElem?.1 hb
  have hi':((grp l).map (·.1))[i]? = some a.1:=by rw[List.getElem?_map,hi];rfl
  have hj':((grp l).map (·.1))[j]? = some a.1:=by rw[List.getElem?_map,hj,e];rfl
  obtain⟨hi1,hi2⟩:=List.getElem?_eq_some_iff.1 hi'
  obtain⟨hj1,hj2⟩:=List.getElem?_eq_some_iff.1 hj'
  rw[List.Nodup,List.pairwise_iff_getElem]at hn
  rcases Nat.lt_trichotomy i j with h3|h3|h3
  ·exact absurd (hi2.trans hj2.symm) (hn i j hi1 hj1 h3)
  ·subst h3;rw[hi]at hj;exact Option.some.inj hj
  ·exact absurd (hj2.trans hi2.symm) (hn j i hj1 hi1 h3)
 refine⟨fun x y z _ _ _ h1 h2=>XS h1 h2,fun x y _ _ h1=>ND h1,fun x y hx hy h1=> ?_,?_⟩
 ·obtain⟨a,ha,rfl⟩:=List.mem_map.1 hx
  obtain⟨b,hb,rfl⟩:=List.mem_map.1 hy
  rcases ZN h1 with h2|h2
  ·rw[MR,MR]at h2
   exact .inl (by rw[hinj a ha b hb (KR h2)])
  ·exact .inr h2
 ·rw[List.Nodup,List.pairwise_map]
  rw[List.Nodup,List.pairwise_map]at hn
  exact hn.imp fun {a b} hab e=>hab (KR (by rw[← MR,← MR,e]))
theorem QDZ {l:List FT}(h:Gd PO l) (hne:0<(grp l).length) (hl:(grp l).length≤1000000) :
  Yt Tryz.prog 61 3 (grp l).length ((rowF fNd (grp l)).map .v) [] [.f (.fn (.func 62))] ((rowF fNd (nds l)).map .v) []:=by
 have k:=QAa ((grp l).map toNr) ltNr (fun a b=>cmpB a.1 b.1) 62 nodesC_f (by rw[List.length_map];exact hne) (by rw[List.length_map];exact hl) (ordNr h) (fun i j x y _ _ _=>by
  unfold ltNr
  rw[Bool.eq_iff_iff,decide_eq_true_eq];exact Zg)
 unfold QJ at k
 rw[QAZ,QCb,QCb,List.length_map]at k
 exact k
theorem Ou (fn:FuncId):FRet Tryz.prog 121 [.f .nil,.f (.int .i64 0),.f (.int .i64 0),.f (.fn (.func fn))] []:=by
 have e1:IntKind.i64.wrap (0+1)=1:=by decide
 have e1b:IntKind.i64.wrap 1=1:=by decide
 have e2:decide ((1:Int)<0)=false:=by decide
 refine FCall.of_ax Qx ?_
 dsimp only[jm,ji,jf,jl,jL,jn,je,jx,jT,jC,jB,jq,jt,ju,jA,km,kf,kl,kn,kx,Qm]
 refine zrs ?_
 repeat'(first|(simp -implicitDefEqProofs only[*,zr,seval,reduceIte,reduceCtorEq])|(apply zk<;>intro hc)|(refine zp ?_)|(refine zd ?_)|fail)
 refine QK (S:=Nat) 53 [0,1,2,3] [] (fun s=>[(8,.f (.int .i64 1))]) (fun s=>[]) (fun s=>s=0) (fun s=>0) (0) [] ?_ ?_ fun s hs=> ?_
 ·rfl
 ·refine wk_i ?_ ?_<;>simp only[zw,seval,reduceIte,reduceCtorEq]
 subst hs
 have e3:decide ((1:Int)<0)=false:=by decide
 refine zrs ?_
 repeat'(first|(simp -implicitDefEqProofs only[*,zr,seval,reduceIte,reduceCtorEq])|(apply zk<;>intro hc)|(refine zp ?_)|(refine zd ?_)|fail)
 exact⟨[],rfl,rfl,List.nodup_nil⟩
theorem QDO (fn:FuncId):FRet Tryz.prog 93 [.f .nil,.f (.int .i64 0),.f (.fn (.func fn))] []:=by
 have k:=Ou fn
 have e1:decide ((20:Int)≤0)=false:=by decide
 have e2:decide ((20:Int)<0)=false:=by decide
 refine FCall.of_ax VV ?_
 dsimp only[jm,ji,jf,jl,jL,jn,je,jx,jT,jC,jB,jq,jt,ju,jA,km,kf,kl,kn,kx,Qw]
 refine zrs ?_
 repeat'(first|(simp -implicitDefEqProofs only[*,zr,seval,reduceIte,reduceCtorEq])|(apply zk<;>intro hc)|(refine zp ?_)|(refine zd ?_)|fail)
 refine QK (S:=Nat) 63 [0,1,2,6] [] (fun s=>[(7,.f (.int .i64 0)),(8,.f (.int .i64 20))]) (fun s=>[]) (fun s=>s=0) (fun s=>0) (0) [] ?_ ?_ fun s hs=> ?_
 ·rfl
 ·refine wk_i ?_ ?_<;>simp only[zw,seval,reduceIte,reduceCtorEq]
 refine zrs ?_
 repeat'(first|(simp -implicitDefEqProofs only[*,zr,seval,reduceIte,reduceCtorEq])|(apply zk<;>intro hc)|(refine zp ?_)|(refine zd ?_)|(refine cP (k) ?_)|(refine cD (k) ?_)|(refine cF (k) ?_)|fail)
 subst hs
 refine QK (S:=Nat) 63 [0,1,2] [] (fun s=>[(6,.f (.int .i64 20))]) (fun s=>[]) (fun s=>s=0) (fun s=>0) (0) [] ?_ ?_ fun s hs=> ?_
 ·rfl
 ·refine wk_i ?_ ?_<;>simp only[zw,seval,reduceIte,reduceCtorEq]
 refine zrs ?_
 repeat'(first|(simp -implicitDefEqProofs only[*,zr,seval,reduceIte,reduceCtorEq])|(apply zk<;>intro hc)|(refine zp ?_)|(refine zd ?_)|fail)
 exact⟨[],rfl,rfl,List.nodup_nil⟩
theorem MJ (fn:FuncId):FRet Tryz.prog 61 [.f .nil,.f (.fn (.func fn))] []:=by
 have k:=QDO fn
 refine FCall.of_ax Qq ?_
 dsimp only[jm,ji,jf,jl,jL,jn,je,jx,jT,jC,jB,jq,jt,ju,jA,km,kf,kl,kn,kx,Qf]
 refine zrs ?_
 repeat'(first|(simp -implicitDefEqProofs only[*,zr,seval,reduceIte,reduceCtorEq])|(apply zk<;>intro hc)|(refine zp ?_)|(refine zd ?_)|(refine cP (k) ?_)|(refine cD (k) ?_)|(refine cF (k) ?_)|fail)
 exact⟨[],rfl,rfl,List.nodup_nil⟩
end Go.Proofs.YtjfchihkhpinmaaGreatDoor
