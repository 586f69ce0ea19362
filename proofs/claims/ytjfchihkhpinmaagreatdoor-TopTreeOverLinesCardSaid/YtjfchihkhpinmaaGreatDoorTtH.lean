/-
  Nodes and the text of a directory, at trees. No statement of the seat is proved here; no conditions.
-/
import Derived.Test.YtjfchihkhpinmaaGreatDoorTtE
namespace Go.Proofs.YtjfchihkhpinmaaGreatDoor
open Go.RowKit Go.Shelf
set_option linter.unusedVariables false
set_option linter.unusedSimpArgs false
set_option maxRecDepth 100000

theorem nodes_e:FRet Tryz.prog 34 [.f (QY [])] [.c (.own 3 0 [])]:=by
 have k:=MJ 62
 have d1:decide ((0:Int)<0)=false:=by decide
 have d2:decide ((0:Int)<((0:Nat):Int))=false:=by decide
 have d3:decide ((0:Int)<(([]:List (List FV)).length:Int))=false:=by decide
 refine FCall.of_ax UD ?_
 dsimp only[jm,ji,jf,jl,jL,jn,je,jx,jT,jC,jB,jq,jt,ju,jA,km,kf,kl,kn,kx,JT,QY,List.map]
 refine zrs ?_
 repeat'(first|(simp -implicitDefEqProofs only[*,List.length_nil,zr,seval,reduceIte,reduceCtorEq])|(apply zk<;>intro hc)|(refine zp ?_)|(refine zd ?_)|fail)
 refine QK (S:=Nat) 90 [0,10] [] (fun s=>[(11,.f (.int .i64 0)),(3,.f .nil)]) (fun s=>[]) (fun s=>s=0) (fun s=>0) (0) [] ?_ ?_ fun s hs=> ?_
 ·rfl
 ·refine wk_i ?_ ?_<;>simp only[zw,seval,reduceIte,reduceCtorEq]
 subst hs
 refine zrs ?_
 repeat'(first|(simp -implicitDefEqProofs only[*,zr,seval,reduceIte,reduceCtorEq])|(apply zk<;>intro hc)|(refine zp ?_)|(refine zd ?_)|(refine cP (k) ?_)|(refine cD (k) ?_)|(refine cF (k) ?_)|(refine cO (k) ?_)|fail)
 exact QAj rfl rfl
theorem fNd_rows {L:List Nd} : ∀ x∈L.map fNd,x.length=3:=fun x hx=>by
 obtain⟨d,_,rfl⟩:=List.mem_map.1 hx
 exact Yr d
theorem QBx (l:List FT) (hG:Gd PO l) (hl:l.length≤1000) (hb:∀ x∈l,x.1.length≤200):FRet Tryz.prog 34 [.f (QY l)] [.c (.v (Nu (nds l)))]:=by
 by_cases hne:l = []
 ·subst hne
  exact nodes_e.frz (ys:=[.fr 3 []]) ⟨⟨[],rfl,rfl,fun r hr=>(by cases hr),rfl⟩,rfl⟩
 ·exact(nodes_o l hG hne hl hb).frz (ys:=[Nu (nds l)]) ⟨⟨(nds l).map fNd,rfl,by rw[List.length_map],fNd_rows,by
   rw[List.take_of_length_le (by rw[QD Yr];exact Nat.le_refl _)];rfl⟩,rfl⟩
structure Sz (l:List FT):Prop where
 len:l.length≤1000
 pt:∀ x∈l,x.1.length≤200
 by_:∀ x∈l,x.2.2.length≤100000
theorem Sz.dir {l:List FT}(h:Sz l){n:List UInt8}{fs:List FT}(hm:(n,.inr fs)∈grp l):Sz fs∧(fs≠[]→n.length≤200):=by
 have hs:=ZY hm
 have hmem:∀ x∈fs,(n++47::x.1,x.2)∈l:=fun x hx=>hs.mem (List.mem_map.2 ⟨x,hx,rfl⟩)
 refine⟨⟨?_,fun x hx=> ?_,fun x hx=>h.by_ (n++47::x.1,x.2) (hmem x hx)⟩,fun hne=> ?_⟩
 ·have h1:=hs.length_le
  have h2:(exN (n,.inr fs)).length=fs.length:=by simp [exN]
  have:=h.len
  omega
 ·have:=h.pt _ (hmem x hx)
  simp only[List.length_append,List.length_cons]at this
  omega
 ·cases fs with
  | nil=>exact absurd rfl hne
  | cons x r=>
   have:=h.pt _ (hmem x List.mem_cons_self)
   simp only[List.length_append,List.length_cons]at this
   omega
theorem UB {l:List FT}(h:Sz l){d:Nd}(hd:d∈nds l):d.1.length≤200:=by
 have hg:=Vg.1 hd
 have hk:=Zr l d hg
 obtain⟨n,f|fs⟩:=d
 ·have hf:f∈l:=(ZY hg).mem (List.mem_singleton.2 rfl)
  have:=h.pt f hf
  rw[hk.1]at this;exact this
 ·exact(h.dir hg).2 hk.1
theorem JD (l:List FT):(nds l).length≤l.length:=by
 have:=Ow l
 unfold nds
 rw[QCU];exact this
theorem UN {k:Nat}{l:List FT}(h:Sz l):(txt digV k l).length≤10000000:=by
 cases k with
 | zero=>simp [txt]
 | succ k=>
  have h1:=Mu (tx:=txt digV k) (L:=nds l) (fun d hd=>by have:=UB h hd;omega) (s:=(nds l).length) (Nat.le_refl _)
  rw[List.take_length]at h1
  have h2:=JD l
  have h3:=h.len
  show(txL (txt digV k) (nds l)).length≤_
  omega
theorem flat_encU (b:List UInt8):(b.map encU).flatten=b.map fun c=>FV.int .u8 c.toNat:=by
 induction b with
 | nil=>rfl
 | cons a b ih=>rw[List.map_cons,List.flatten_cons,ih];rfl
theorem rows_encU (b:List UInt8):∀ r∈b.map encU,r.length=1:=fun r hr=>by
 obtain⟨c,_,rfl⟩:=List.mem_map.1 hr
 rfl
theorem Ny:∀ (k:Nat) (l:List FT),Gd PO l→Short k l→Sz l→FRet Tryz.prog 36 [.f (Nu (nds l))] [.c (.v (frB (txt digV k l)))]
 | 0,l,hG,hs,hz=>by
  have e:l = []:=by
   cases l with
   | nil=>rfl
   | cons x l=>exact absurd (hs x List.mem_cons_self) (Nat.not_lt_zero _)
  subst e
  have:=QBO [] (fun _=>[]) (by simp) (fun n f h=>by cases h) (fun n fs h=>by cases h)
  exact this.frz (ys:=[frB []]) ⟨⟨[],rfl,rfl,fun r hr=>(by cases hr),rfl⟩,rfl⟩
 | k+1,l,hG,hs,hz=>by
  have:=QBO (nds l) (txt digV k) (by have:=JD l;have:=hz.len;omega) (fun n f h=>by
   have hg:=Vg.1 h
   have hf:f∈l:=(ZY hg).mem (List.mem_singleton.2 rfl)
   have h1:=hz.by_ f hf
   have h2:n.length≤200:=UB hz h
   exact⟨by omega,by omega⟩) (fun n fs h=>by
   have hg:=Vg.1 h
   obtain⟨hGf,_⟩:=hG.dir hg
   have hzf:=(hz.dir hg).1
   have h2:n.length≤200:=UB hz h
   have h3:=UN (k:=k) hzf
   exact⟨by omega,by omega,QBx fs hGf hzf.len hzf.pt,Ny k fs hGf (hs.dir hg) hzf⟩)
  exact this.frz (ys:=[frB (txt digV (k+1) l)]) ⟨⟨(txL (txt digV k) (nds l)).map encU,rfl,by rw[List.length_map],rows_encU _,by
   rw[flat_encU,List.take_of_length_le (by simp)]⟩,rfl⟩
end Go.Proofs.YtjfchihkhpinmaaGreatDoor
namespace Go.Proofs.YtjfchihkhpinmaaGreatDoor
open Go.RowKit Go.Shelf
set_option linter.unusedVariables false
set_option linter.unusedSimpArgs false
set_option maxRecDepth 100000

theorem hasPreS_f (s p:ByteArray):FRet Tryz.prog 99 [.f (.str s),.f (.str p)] [.c (.v (.bool (QBI s p)))]:=by
 refine FCall.of_ax JH ?_
 dsimp only[jm,ji,jf,jl,jL,jn,je,jx,jT,jC,jB,jq,jt,ju,jA,km,kf,kl,kn,kx,Yg]
 refine zrs ?_
 repeat'(first|(simp -implicitDefEqProofs only[*,zr,seval,reduceIte,reduceCtorEq])|(apply zk<;>intro hc)|(refine zp ?_)|(refine zd ?_)|(refine cP (Kp s p) ?_)|(refine cD (Kp s p) ?_)|(refine cF (Kp s p) ?_)|(refine cO (Kp s p) ?_)|fail)
 exact VO
theorem Jy (l:List UInt8):(bs l).size=l.length:=by show l.toArray.size=_;rw[List.size_toArray]
theorem hasPre_L (n p:List UInt8):QBI (bs p) (bs n++⟨#[47]⟩)=hasP n p:=by
 have hz:(bs n++(⟨#[47]⟩:ByteArray)).size=n.length+1:=by rw[ByteArray.size_append,Jy];rfl
 have hd:(bs n++(⟨#[47]⟩:ByteArray)).data.toList=n++ [47]:=by simp
 have he:((bs p).extract 0 (bs n++(⟨#[47]⟩:ByteArray)).size).data.toList=p.take (n.length+1):=by rw[Lib.extract_from_zero,hz]
 unfold QBI hasP
 rw[Bool.eq_iff_iff,Bool.and_eq_true,decide_eq_true_eq,decide_eq_true_eq,decide_eq_true_eq,← My,he,hd,hz,Jy]
 constructor
 ·rintro⟨_,h⟩
  exact⟨p.drop (n.length+1),by rw[← h,List.take_append_drop]⟩
 ·rintro⟨t,rfl⟩
  refine⟨by simp;omega,?_⟩
  rw[List.take_left' (by simp)]
theorem Lies_f (n p:List UInt8) (hn:n.length≤1000):FRet Tryz.prog 74 [.f (.str (bs p)),.f (.str (bs n))] [.c (.v (.bool (hasP n p)))]:=by
 have k:=hasPreS_f (bs p) (bs n++⟨#[47]⟩)
 rw[hasPre_L]at k
 have l0:=eq_true (show(bs n).size+(⟨#[47]⟩:ByteArray).size≤9223372036854775807 by rw[Jy];show n.length+1≤_;omega)
 generalize hasP n p=v at*
 generalize bs n=N at*
 generalize bs p=p at*
 refine FCall.of_ax Ok ?_
 dsimp only[jm,ji,jf,jl,jL,jn,je,jx,jT,jC,jB,jq,jt,ju,jA,km,kf,kl,kn,kx,Nl]
 refine zrs ?_
 repeat'(first|(simp -implicitDefEqProofs only[*,zr,seval,reduceIte,reduceCtorEq])|(apply zk<;>intro hc)|(refine zp ?_)|(refine zd ?_)|(refine cP (k) ?_)|(refine cD (k) ?_)|(refine cF (k) ?_)|(refine cO (k) ?_)|fail)
 exact VO
theorem QCH {n:List UInt8}{l:List FT}{s:Nat}{x:FT}(h:l[s]? = some x):YP n (l.take (s+1))=YP n (l.take s)++if hasP n x.1=true then [(x.1.drop (n.length+1),x.2)]else []:=by
 unfold YP
 rw[List.take_add_one,h]
 show((l.take s++ [x]).filter _).map _=_
 rw[List.filter_append,List.map_append]
 congr 1
 by_cases hp:hasP n x.1=true
 ·simp [hp]
 ·simp [hp]
theorem QDr (n:List UInt8) (l:List FT):(YP n l).length≤l.length:=by
 unfold YP
 rw[List.length_map]
 exact(List.filter_sublist).length_le
set_option maxHeartbeats 2000000 in
theorem QCG (l:List FT) (n:List UInt8) (hz:Sz l) (hn:n.length≤1000) (hno:∀ x∈l,x.1≠n):FRet Tryz.prog 44 [.f (QY l),.f (.str (bs n))] [.c (.own 3 (YP n l).length (rowF fFt (YP n l))),.c (.v (.bool true))]:=by
 have hZ:=hide hz
 have hNo:=hide hno
 have hll:=hz.len
 clear hz hno
 refine FCall.of_ax UC ?_
 dsimp only[jm,ji,jf,jl,jL,jn,je,jx,jT,jC,jB,jq,jt,ju,jA,km,kf,kl,kn,kx,JP,QY]
 refine zrs ?_
 repeat'(first|(simp -implicitDefEqProofs only[*,zr,seval,reduceIte,reduceCtorEq])|(apply zk<;>intro hc)|(refine zp ?_)|(refine zd ?_)|fail)
 refine QK (S:=Nat) 50 [0,1] [] (fun s=>[(7,.f (.int .i64 s)),(6,.sl 60900 1 3 0 (YP n (l.take s)).length)]) (fun s=>[(60900,1,AObj.cells ((rowF fFt (YP n (l.take s))).map .f))]) (fun s=>s≤l.length) (fun s=>l.length - s) (0) [60900] ?_ ?_ fun s hs=> ?_
 ·exact Nat.zero_le _
 ·refine wk_i ?_ ?_<;>simp only[List.take_zero,zw,seval,reduceIte,reduceCtorEq]
  all_goals rfl
 rcases Nat.lt_or_ge s l.length with hlt|hge
 ·obtain⟨x,hx⟩:=QH hlt
  have h4:=XU hlt (by omega)
  have h2:=lt_t hlt
  have hsn:=QCH (n:=n) hx
  have hxm:=List.mem_of_getElem? hx
  have hxp:=hZ.out.pt x hxm
  have hne:=hNo.out x hxm
  have kL:=Lies_f n x.1 hn
  have hbl:=QDr n (l.take s)
  rw[List.length_take]at hbl
  obtain⟨xp,xr,xb⟩:=x
  dsimp only at hsn hxp hne kL
  have d1:decide (bs xp=bs n)=false:=dcF fun e=>hne (KR e)
  have hRL:(rowF fFt (YP n (l.take s))).length=(YP n (l.take s)).length*3:=QD Vc
  have b1:=eq_true (show((YP n (l.take s)).length+1)*48≤140737488355328 by omega)
  have hone:(frB xb).isOne=true:=rfl
  cases hp:hasP n xp with
  | false=>
   rw[hp]at kL hsn
   simp only[Bool.false_eq_true,if_false,List.append_nil]at hsn
   generalize YP n (l.take s)=D at*
   replace hp:=hide hp
   clear hbl hxp
   refine zrs ?_
   repeat'(first|(simp -implicitDefEqProofs only[*,List.getElem?_map,Option.map_some,fFt,List.length_map,zr,seval,reduceIte,reduceCtorEq])|(apply zk<;>intro hc)|(refine zp ?_)|(refine zd ?_)|(refine cP (kL) ?_)|(refine cD (kL) ?_)|(refine cF (kL) ?_)|(refine cO (kL) ?_)|fail)
   refine⟨s+1,hlt,by omega,?_⟩
   rw[hsn]
   refine wk_i ?_ ?_<;>simp only[zw,seval,reduceIte,reduceCtorEq]
  | true=>
   rw[hp]at kL hsn
   simp only[if_true]at hsn
   have hpl:n.length+1≤xp.length:=by
    unfold hasP at hp
    obtain⟨t,ht⟩:=of_decide_eq_true hp
    rw[← ht];simp
   have w1:IntKind.i64.wrap (((bs n).size:Int)+1)=((n.length+1:Nat):Int):=by rw[Jy,QR]<;>omega
   have w2:=le_tt (show((n.length+1:Nat):Int)≤((bs xp).size:Int) by rw[Jy];omega)
   have hdr:(bs xp).extract (n.length+1) (bs xp).size=bs (xp.drop (n.length+1)):=by
    apply Yk
    rw[Lib.extract_to_end]
   generalize YP n (l.take s)=D at*
   generalize xp.drop (n.length+1)=yp at*
   replace hp:=hide hp
   clear hbl hxp hpl
   refine zrs ?_
   repeat'(first|(simp -implicitDefEqProofs only[*,List.getElem?_map,Option.map_some,fFt,List.length_map,Int.le_refl,zr,seval,reduceIte,reduceCtorEq])|(apply zk<;>intro hc)|(refine zp ?_)|(refine zd ?_)|(refine cP (kL) ?_)|(refine cD (kL) ?_)|(refine cF (kL) ?_)|(refine cO (kL) ?_)|fail)
   refine⟨s+1,hlt,by omega,?_⟩
   rw[hsn,List.length_append]
   simp only[Vy,List.map_append]
   refine wk_i ?_ ?_<;>simp only[zw,seval,reduceIte,reduceCtorEq]
   exact SlotsOk.app (SlotsOk.fs rfl) (SlotsOk.of_eq rfl)
 ·have h2:=lt_f hge
  clear hZ hNo
  refine zrs ?_
  repeat'(first|(simp -implicitDefEqProofs only[*,zr,seval,reduceIte,reduceCtorEq])|(apply zk<;>intro hc)|(refine zp ?_)|(refine zd ?_)|fail)
  rw[List.take_of_length_le hge]
  exact QCf rfl (by rw[QD Vc];exact Nat.le_refl _) rfl
set_option maxHeartbeats 2000000 in
theorem QBe (l:List FT) (n:List UInt8) (f:FT) (hll:l.length≤1000) (hn:n.length≤1000) (hno:∀ x∈l,hasP n x.1=false) (hf:f∈l) (hfn:f.1=n) (hu:∀ x∈l,x.1=n→x=f):FRet Tryz.prog 44 [.f (QY l),.f (.str (bs n))] [.c (.own 3 1 (rowF fFt [f])),.c (.v (.bool false))]:=by
 replace hno:=hide hno
 replace hu:=hide hu
 replace hf:=hide hf
 refine FCall.of_ax UC ?_
 dsimp only[jm,ji,jf,jl,jL,jn,je,jx,jT,jC,jB,jq,jt,ju,jA,km,kf,kl,kn,kx,JP,QY]
 refine zrs ?_
 repeat'(first|(simp -implicitDefEqProofs only[*,zr,seval,reduceIte,reduceCtorEq])|(apply zk<;>intro hc)|(refine zp ?_)|(refine zd ?_)|fail)
 refine QK (S:=Nat) 50 [0,1] [] (fun s=>[(7,.f (.int .i64 s)),(6,.f .nil)]) (fun s=>[]) (fun s=>s≤l.length∧(∀ x∈l.take s,x.1≠n)) (fun s=>l.length - s) (0) [] ?_ ?_ fun s hs=> ?_
 ·exact⟨Nat.zero_le _,fun x hx=>by cases hx⟩
 ·refine wk_i ?_ ?_<;>simp only[zw,seval,reduceIte,reduceCtorEq]
 obtain⟨hs,hbef⟩:=hs
 rcases Nat.lt_or_ge s l.length with hlt|hge
 ·obtain⟨x,hx⟩:=QH hlt
  have h4:=XU hlt (by omega)
  have h2:=lt_t hlt
  have hxm:=List.mem_of_getElem? hx
  have hxu:=hu.out x hxm
  have kL:=Lies_f n x.1 hn
  rw[hno.out x hxm]at kL
  have htk:l.take (s+1)=l.take s++ [x]:=by rw[List.take_add_one,hx];rfl
  obtain⟨xp,xr,xb⟩:=x
  dsimp only at kL hxu
  by_cases he:xp=n
  ·have d1:decide (bs xp=bs n)=true:=decide_eq_true (by rw[he])
   have e1:=hxu he
   subst e1
   clear hbef htk
   refine zrs ?_
   repeat'(first|(simp -implicitDefEqProofs only[*,List.getElem?_map,Option.map_some,fFt,zr,seval,reduceIte,reduceCtorEq])|(apply zk<;>intro hc)|(refine zp ?_)|(refine zd ?_)|fail)
   exact QCf rfl (by rw[QD Vc];exact Nat.le_refl _) rfl
  ·have d1:decide (bs xp=bs n)=false:=dcF fun e=>he (KR e)
   have hbef':∀ x∈l.take (s+1),x.1≠n:=fun y hy=>by
    rw[htk]at hy
    rcases List.mem_append.1 hy with hy|hy
    ·exact hbef y hy
    ·obtain rfl:=List.mem_singleton.1 hy;exact he
   replace hbef':=hide hbef'
   clear hbef htk
   refine zrs ?_
   repeat'(first|(simp -implicitDefEqProofs only[*,List.getElem?_map,Option.map_some,fFt,zr,seval,reduceIte,reduceCtorEq])|(apply zk<;>intro hc)|(refine zp ?_)|(refine zd ?_)|(refine cP (kL) ?_)|(refine cD (kL) ?_)|(refine cF (kL) ?_)|(refine cO (kL) ?_)|fail)
   refine⟨s+1,⟨hlt,hbef'.out⟩,by omega,?_⟩
   refine wk_i ?_ ?_<;>simp only[zw,seval,reduceIte,reduceCtorEq]
 ·exfalso
  rw[List.take_of_length_le hge]at hbef
  exact hbef f hf.out hfn
theorem QBd {L:List FT}{n:List UInt8}{P:List FT}{v:Bool}(k:FRet Tryz.prog 44 [.f (QY L),.f (.str (bs n))] [.c (.own 3 P.length (rowF fFt P)),.c (.v (.bool v))]):FRet Tryz.prog 44 [.f (QY L),.f (.str (bs n))] [.c (.v (QY P)),.c (.v (.bool v))]:=
 k.frz (ys:=[QY P,.bool v]) ⟨⟨P.map fFt,rfl,by rw[List.length_map],fun r hr=>by
   obtain⟨x,_,rfl⟩:=List.mem_map.1 hr
   exact Vc x,by
   rw[List.take_of_length_le (by rw[QD Vc];exact Nat.le_refl _)];rfl⟩,rfl,rfl⟩
theorem below_d {l:List FT}(hG:Gd PO l) (hz:Sz l){n:List UInt8}{fs:List FT}(hm:(n,.inr fs)∈nds l):FRet Tryz.prog 44 [.f (QY l),.f (.str (bs n))] [.c (.v (QY fs)),.c (.v (.bool true))]:=by
 have hg:=Vg.1 hm
 obtain⟨h1,h2⟩:=below_dir hG hg
 have h3:n.length≤200:=UB hz hm
 have:=QCG l n hz (by omega) h2
 rw[h1]at this
 exact QBd this
theorem QDB {l:List FT}(hG:Gd PO l) (hz:Sz l){n:List UInt8}{f:FT}(hm:(n,.inl f)∈nds l):FRet Tryz.prog 44 [.f (QY l),.f (.str (bs n))] [.c (.v (QY [f])),.c (.v (.bool false))]:=by
 have hg:=Vg.1 hm
 obtain⟨h1,h2⟩:=QDq hG hg
 obtain⟨h4,h5,_⟩:=hG.file hg
 have h3:n.length≤200:=UB hz hm
 exact QBd (QBe l n f hz.len (by omega) h1 h4 h5 h2)
end Go.Proofs.YtjfchihkhpinmaaGreatDoor
