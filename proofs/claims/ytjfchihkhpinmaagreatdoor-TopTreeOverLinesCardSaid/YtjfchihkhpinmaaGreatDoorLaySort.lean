/-
  (*treeReader).dir at a right tree. No statement of the seat is proved here; no conditions.
-/
import Derived.Test.YtjfchihkhpinmaaGreatDoorTtO
import Derived.Test.YtjfchihkhpinmaaGreatDoorCap
import Derived.Ground.SlsfProg
import Derived.Shelf.SlSortCmp.WholeK
import Derived.Test.YtjfchihkhpinmaaGreatDoorRows
namespace Go.Proofs.YtjfchihkhpinmaaGreatDoor
open Go.RowKit Go.Shelf
set_option linter.unusedVariables false
set_option linter.unusedSimpArgs false
set_option maxRecDepth 100000

def ndF (sub:List UInt8→List FT→List FT) (pre:List UInt8) (d:Nd):List FT:=match d.2 with
 | .inl f=>[(pre++d.1,f.2)]
 | .inr fs=>sub (pre++d.1++ [47]) fs
def flR (sub:List UInt8→List FT→List FT) (pre:List UInt8) (L:List Nd):List FT:=L.flatMap (ndF sub pre)
theorem flR_snoc {sub:List UInt8→List FT→List FT}{pre:List UInt8}{L:List Nd}{s:Nat}{d:Nd}(h:L[s]? = some d):flR sub pre (L.take (s+1))=flR sub pre (L.take s)++ndF sub pre d:=by
 unfold flR
 rw[List.take_add_one,h,List.flatMap_append]
 show _++(ndF sub pre d++ [])=_
 rw[List.append_nil]
theorem flR_len {sub:List UInt8→List FT→List FT}{pre:List UInt8}{L:List Nd}{s:Nat} : (flR sub pre (L.take s)).length≤(flR sub pre L).length:=by
 unfold flR
 have:(L.take s).flatMap (ndF sub pre)++(L.drop s).flatMap (ndF sub pre)=L.flatMap (ndF sub pre):=by rw[← List.flatMap_append,List.take_append_drop]
 rw[← this,List.length_append];omega
theorem fl_eq (k:Nat) (pre:List UInt8) (l:List FT):fl (k+1) pre l=flR (fl k) pre (nds l):=rfl
def TRd (O:List Ob) (D:List FT):List RC:=[.v (XJ O),.own 3 D.length (rowF fFt D)]
set_option maxHeartbeats 4000000 in
theorem dir_w (O:List Ob) (L:List Nd) (tx:List FT→List UInt8) (sub:List UInt8→List FT→List FT) (pre:List UInt8) (D:List FT) (dg:ByteArray) (hO:O.length≤1000000) (hr:QZ kOb O) (hpre:pre.length≤200) (hL0:L≠[]) (hL:L.length≤1000)
  (hn:(D++flR sub pre L).length≤1000)
  (kF:FRet Tryz.prog 55 [.f (XJ O),.f (.str dg)] [.c (.v (frB (txL tx L))),.c (.v (.bool true))])
  (kR:FRet Tryz.prog 56 [.f (frB (txL tx L))] [.c (.v (QDh tx L)),.c (.v (.bool true))])
  (hf:∀ n f,(n,.inl f)∈L→(digV f.2.2,f.2.2)∈O∧f.2.2.length≤100000∧pre.length+n.length≤200)
  (hd:∀ n fs,(n,.inr fs)∈L→pre.length+n.length≤200∧∀ D',(D'++sub (pre++n++ [47]) fs).length≤1000→QBj Tryz.prog 28 (TRd O D') [] [.f (.str (digV (tx fs))),.f (.str (bs (pre++n++ [47])))] (TRd O (D'++sub (pre++n++ [47]) fs)) [.c (.v (.int .i64 0))]) :
  QBj Tryz.prog 28 (TRd O D) [] [.f (.str dg),.f (.str (bs pre))] (TRd O (D++flR sub pre L)) [.c (.v (.int .i64 0))]:=by
 have hF:=hide (show ∀ n f,(n,.inl f)∈L→FRet Tryz.prog 55 [.f (XJ O),.f (.str (digV f.2.2))] [.c (.v (frB f.2.2)),.c (.v (.bool true))]∧f.2.2.length≤100000∧pre.length+n.length≤200 from fun n f hm=>⟨Find_f O hO hr (hf n f hm).1,(hf n f hm).2⟩)
 have hD:=hide hd
 have hpz:=Jy pre
 have hLp:decide (((L.length:Nat):Int)=0)=false:=dcF (by
  have:=List.length_pos_iff.2 hL0
  omega)
 clear hf hd hr hO hL0
 unfold TRd
 unfold TRd at hD
 simp only[QDh]at kR
 generalize XJ O=OO at*
 generalize hTX:txL tx L=TX at*
 clear hTX
 refine FCall.of_ax Xc ?_
 dsimp only[jm,ji,jf,jl,jL,jn,je,jx,jT,jC,jB,jq,jt,ju,jA,km,kf,kl,kn,kx,Vv]
 refine zrs ?_
 repeat'(first|(simp -implicitDefEqProofs only[*,List.length_map,zr,seval,reduceIte,reduceCtorEq])|(refine zp ?_)|(refine zd ?_)|(refine cP (kF) ?_)|(refine cD (kF) ?_)|(refine cF (kF) ?_)|(refine cO (kF) ?_)|(refine cP (kR) ?_)|(refine cD (kR) ?_)|(refine cF (kR) ?_)|(refine cO (kR) ?_)|fail)
 clear kF kR hLp
 refine QAK (S:=Nat) 107 [0,2,43,44] [] (fun s=>[(45,.f (.int .i64 s))]) (fun s=>[(80000,1,AObj.cells ((rowF fFt (D++flR sub pre (L.take s))).map .f)),(100001,1,AObj.cells [.f OO,.sl 80000 1 3 0 (D++flR sub pre (L.take s)).length])]) (fun s=>s≤L.length) (fun s=>L.length - s) (0) [] [] ?_ rfl ?_ fun s hs=> ?_
 ·exact Nat.zero_le _
 ·rw[show D++flR sub pre (L.take 0)=D from by rw[List.take_zero];exact List.append_nil D]
  refine wk_i ?_ ?_<;>simp only[zw,seval,reduceIte,reduceCtorEq]
 simp only[sws_n,swh_n]
 have lenA:∀ A:List FT,A.length*3≤(rowF fFt A).length:=fun A=>by rw[QD Vc];exact Nat.le_refl _
 rcases Nat.lt_or_ge s L.length with hlt|hge
 ·obtain⟨d,hx⟩:=QH hlt
  have h4:=XU hlt (by omega)
  have h2:=lt_t hlt
  have hsn:=flR_snoc (sub:=sub) (pre:=pre) hx
  have hc2:=flR_len (sub:=sub) (pre:=pre) (L:=L) (s:=s+1)
  rw[hsn,List.length_append]at hc2
  rw[List.length_append]at hn
  have hAs:D++flR sub pre (L.take (s+1))=(D++flR sub pre (L.take s))++ndF sub pre d:=by rw[hsn,List.append_assoc]
  have hAl:(D++flR sub pre (L.take s)).length+(ndF sub pre d).length≤1000:=by rw[List.length_append];omega
  generalize D++flR sub pre (L.take s)=A at*
  obtain⟨n,f|fs⟩:=d
  ·obtain⟨kB,hb,hp⟩:=hF.out n f (List.mem_of_getElem? hx)
   have kC:=WR f.2.2 (by omega)
   obtain⟨fp,fr,fb⟩:=f
   have hx1:(L.map (fEn tx))[s]? = some [.str (bs n),.str (digV fb),.bool false,.bool fr]:=by rw[List.getElem?_map,hx];rfl
   have e1:ndF sub pre (n,.inl (fp,fr,fb)) = [(pre++n,fr,fb)]:=rfl
   rw[e1]at hAs hAl
   have hnz:=Jy n
   have hrow:(rowF fFt (D++flR sub pre (L.take (s+1)))).map AV.f=(rowF fFt A).map AV.f++ [.f (.str (bs pre++bs n)),.f (.bool fr),.f (frB fb)]:=by
    rw[hAs,Vy,List.map_append]
    show _++ [AV.f (FV.str (bs (pre++n))),AV.f (.bool fr),AV.f (frB fb)]=_
    rw[QC9]
   have hlen:(D++flR sub pre (L.take (s+1))).length=A.length+1:=by rw[hAs,List.length_append];rfl
   simp only[List.length_cons,List.length_nil]at hAl
   have l0:=eq_true (show(bs pre).size+(bs n).size≤9223372036854775807 by omega)
   have w1:IntKind.i64.wrap (((bs pre).size:Int)+((bs n).size:Int))=(((bs pre).size+(bs n).size:Nat):Int):=by rw[QR]<;>omega
   have w2:decide (((bs pre).size+(bs n).size:Nat) > (200:Int))=false:=dcF (by omega)
   have w3:decide ((200:Int)<(((bs pre).size+(bs n).size:Nat):Int))=false:=dcF (by omega)
   have w4:decide ((A.length:Int)≥1000)=false:=dcF (by omega)
   have w5:decide ((1000:Int)≤(A.length:Int))=false:=dcF (by omega)
   have w6:=eq_true (show(A.length+1)*48≤140737488355328 by omega)
   have hone:(frB fb).isOne=true:=rfl
   dsimp only at kB kC
   generalize bs n=N at*
   generalize bs pre=Pr at*
   generalize digV fb=dv at*
   generalize frB fb=B at*
   have lA:=lenA A
   have hRL:(rowF fFt A).length=A.length*3:=QD Vc
   clear lA lenA
   replace hrow:=hide hrow
   replace hlen:=hide hlen
   clear hAs hx hsn hc2 hn e1 hnz hpz
   refine zrs ?_
   repeat'(first|(simp -implicitDefEqProofs only[*,QE,zr,seval,reduceIte,reduceCtorEq])|(refine zp ?_)|(refine zd ?_)|(refine cP (kB) ?_)|(refine cD (kB) ?_)|(refine cF (kB) ?_)|(refine cO (kB) ?_)|(refine cP (kC) ?_)|(refine cD (kC) ?_)|(refine cF (kC) ?_)|(refine cO (kC) ?_)|fail)
   refine⟨s+1,[],hlt,by omega,rfl,?_⟩
   rw[hrow.out,hlen.out]
   refine wk_i ?_ ?_<;>simp only[zw,seval,reduceIte,reduceCtorEq]
   all_goals (rw[← hrow.out];exact Vs)
  ·obtain⟨hp,kD⟩:=hD.out n fs (List.mem_of_getElem? hx)
   have e1:ndF sub pre (n,.inr fs)=sub (pre++n++ [47]) fs:=rfl
   rw[e1]at hAs hAl
   have kR:=kD A (by rw[List.length_append];exact hAl)
   rw[← hAs,QC9,QC9,show bs [47]=⟨#[47]⟩from rfl]at kR
   have hx1:(L.map (fEn tx))[s]? = some [.str (bs n),.str (digV (tx fs)),.bool true,.bool false]:=by rw[List.getElem?_map,hx];rfl
   have hnz:=Jy n
   have l0:=eq_true (show(bs pre).size+(bs n).size≤9223372036854775807 by omega)
   have l1:=eq_true (show(bs pre++bs n).size+(⟨#[47]⟩:ByteArray).size≤9223372036854775807 by rw[ByteArray.size_append,show(⟨#[47]⟩:ByteArray).size=1 from rfl];omega)
   have d0:decide ((0:Int)=0)=true:=rfl
   generalize bs n=N at*
   generalize bs pre=Pr at*
   generalize digV (tx fs)=dv at*
   have lA:=lenA (D++flR sub pre (L.take (s+1)))
   generalize hA2:D++flR sub pre (L.take (s+1))=A2 at*
   replace hA2:=hide hA2
   clear hAs hx hsn hc2 hn e1 hnz hpz kD
   replace kR:=hide kR
   refine zrs ?_
   repeat'(first|(simp -implicitDefEqProofs only[*,QE,zr,seval,reduceIte,reduceCtorEq])|(refine zp ?_)|(refine zd ?_)|fail)
   refine gP kR.out 100001 1 [.f OO,.sl 80000 1 3 0 A.length] [] [.f (.str dv),.f (.str (Pr++N++⟨#[47]⟩))] ?_
   repeat'(first|(simp -implicitDefEqProofs only[*,QE,zr,seval,reduceIte,reduceCtorEq])|(refine zp ?_)|(refine zd ?_)|fail)
   refine⟨s+1,[(59,80000)],hlt,by omega,rfl,?_⟩
   rw[hA2.out]
   refine wk_i ?_ ?_<;>simp only[zw,seval,reduceIte,reduceCtorEq]
 ·obtain rfl:s=L.length:=by omega
  have h2:=lt_f hge
  have h3:=List.take_length (l:=L)
  clear hF hD
  refine zrs ?_
  repeat'(first|(simp -implicitDefEqProofs only[*,zr,seval,reduceIte,reduceCtorEq])|(refine zp ?_)|(refine zd ?_)|fail)
  exact⟨[.f (.int .i64 0)],[.f OO,.sl 80000 1 3 0 (D++flR sub pre L).length],rfl,rfl,⟨rfl,.inr ⟨80000,1,rfl,rfl,lenA _⟩,rfl⟩,⟨rfl,rfl⟩,by simp [idsC,idsS],by simp [idsC,idsS]⟩
set_option maxHeartbeats 4000000 in
theorem dir_e (O:List Ob) (tx:List FT→List UInt8) (dg:ByteArray)
  (kF:FRet Tryz.prog 55 [.f (XJ O),.f (.str dg)] [.c (.v (frB [])),.c (.v (.bool true))])
  (kR:FRet Tryz.prog 56 [.f (frB [])] [.c (.v (QDh tx [])),.c (.v (.bool true))]) :
  QBj Tryz.prog 28 (TRd O []) [] [.f (.str dg),.f (.str ⟨#[]⟩)] (TRd O []) [.c (.v (.int .i64 0))]:=by
 unfold TRd
 simp only[QDh,List.map]at kR
 generalize XJ O=OO at*
 generalize frB []=TX at*
 have d1:decide ((((0:Nat):Int))=0)=true:=rfl
 have d2:decide ((⟨#[]⟩:ByteArray)=⟨#[]⟩)=true:=by decide
 refine FCall.of_ax Xc ?_
 dsimp only[jm,ji,jf,jl,jL,jn,je,jx,jT,jC,jB,jq,jt,ju,jA,km,kf,kl,kn,kx,Vv]
 refine zrs ?_
 repeat'(first|(simp -implicitDefEqProofs only[*,List.length_nil,zr,seval,reduceIte,reduceCtorEq])|(refine zp ?_)|(refine zd ?_)|(refine cP (kF) ?_)|(refine cD (kF) ?_)|(refine cF (kF) ?_)|(refine cO (kF) ?_)|(refine cP (kR) ?_)|(refine cD (kR) ?_)|(refine cF (kR) ?_)|(refine cO (kR) ?_)|fail)
 refine QAK (S:=Nat) 107 [0,2,43,44] [] (fun s=>[(45,.f (.int .i64 0))]) (fun s=>[(80000,1,AObj.cells ((rowF fFt []).map .f)),(100001,1,AObj.cells [.f OO,.sl 80000 1 3 0 0])]) (fun s=>s=0) (fun s=>0) (0) [] [] ?_ rfl ?_ fun s hs=> ?_
 ·rfl
 ·refine wk_i ?_ ?_<;>simp only[zw,seval,reduceIte,reduceCtorEq]
 simp only[sws_n,swh_n]
 subst hs
 have d3:decide ((0:Int)<((0:Nat):Int))=false:=rfl
 refine zrs ?_
 repeat'(first|(simp -implicitDefEqProofs only[*,zr,seval,reduceIte,reduceCtorEq])|(refine zp ?_)|(refine zd ?_)|fail)
 exact⟨[.f (.int .i64 0)],[.f OO,.sl 80000 1 3 0 0],rfl,rfl,⟨rfl,.inr ⟨80000,1,rfl,rfl,Nat.le_refl _⟩,rfl⟩,⟨rfl,rfl⟩,by simp [idsC,idsS],by simp [idsC,idsS]⟩
theorem dir_f (O:List Ob) (hO:O.length≤1000000) (hr:QZ kOb O):∀ (k:Nat) (l:List FT) (pre:List UInt8) (D:List FT),Gd PO l→Short k l→Sz l→l≠[]→(∀ x∈l,pre.length+x.1.length≤200)→D.length+l.length≤1000→(∀ c∈cont digV k l,(digV c,c)∈O)→
  QBj Tryz.prog 28 (TRd O D) [] [.f (.str (digV (txt digV k l))),.f (.str (bs pre))] (TRd O (D++fl k pre l)) [.c (.v (.int .i64 0))]
 | 0,l,pre,D,hG,hs,hz,hne,_,_,_=>by
  cases l with
  | nil=>exact absurd rfl hne
  | cons x l=>exact absurd (hs x List.mem_cons_self) (Nat.not_lt_zero _)
 | k+1,l,pre,D,hG,hs,hz,hne,hp,hD,hc=>by
  have hfl:=fl_len (pre:=pre) hG hs
  refine dir_w O (nds l) (txt digV k) (fl k) pre D (digV (txt digV (k+1) l)) hO hr ?_ ?_ ?_ ?_ (Find_f O hO hr (x:=(digV (txt digV (k+1) l),txt digV (k+1) l)) (hc _ (QC5 digV))) (QAk k l hG hz) ?_ ?_
  ·cases l with
   | nil=>exact absurd rfl hne
   | cons x l=>have:=hp x List.mem_cons_self;omega
  ·intro e
   have h1:(nds l).length=(grp l).length:=(Ma hG).len
   rw[e]at h1
   exact hne (grp_nil (List.length_eq_zero_iff.1 h1.symm))
  ·have:=JD l;have:=hz.len;omega
  ·rw[← fl_eq,List.length_append,hfl];exact hD
  ·intro n f hm
   have hg:=Vg.1 hm
   obtain⟨h1,h2,_⟩:=hG.file hg
   have:=hp f h1
   rw[h2]at this
   exact⟨hc _ (cont_file digV hm),hz.by_ f h1,this⟩
  ·intro n fs hm
   have hg:=Vg.1 hm
   obtain⟨hGf,_⟩:=hG.dir hg
   obtain⟨hzf,_⟩:=hz.dir hg
   have hnf:=(Zr l _ hg).1
   have hsub:∀ x∈fs,(n++47::x.1,x.2)∈l:=fun x hx=>(ZY hg).mem (List.mem_map.2 ⟨x,hx,rfl⟩)
   have hpn:∀ x∈fs,pre.length+(n.length+1+x.1.length)≤200:=fun x hx=>by
    have:=hp _ (hsub x hx)
    simp only[List.length_append,List.length_cons]at this
    omega
   refine⟨?_,fun D' hD'=> ?_⟩
   ·cases fs with
    | nil=>exact absurd rfl hnf
    | cons x r=>have:=hpn x List.mem_cons_self;omega
   ·have hfs:=fl_len (pre:=pre++n++ [47]) hGf (hs.dir hg)
    rw[List.length_append,hfs]at hD'
    exact dir_f O hO hr k fs (pre++n++ [47]) D' hGf (hs.dir hg) hzf hnf (fun x hx=>by
     have:=hpn x hx
     simp only[List.length_append,List.length_cons,List.length_nil]
     omega) hD' (fun c hcm=>hc c (cont_dir digV hm c hcm))
end Go.Proofs.YtjfchihkhpinmaaGreatDoor
namespace Go.Proofs
open Go.Shelf
def Tryz.sortFile_ren:Go.Shelf.Ren:=⟨fun|6=>29|15=>38|14=>57|28=>71|29=>72|20=>82|21=>83|22=>84|23=>85|24=>86|25=>87|26=>88|27=>89|46=>113|47=>95|48=>96|49=>114|50=>115|57=>132|n=>n,fun|22=>22|24=>76|25=>77|3=>3|39=>90|0=>0|53=>134|55=>97|4=>4|46=>128|45=>127|50=>67|5=>5|9=>9|66=>150|70=>154|76=>175|77=>176|n=>n,fun|n=>n⟩
theorem Tryz.sortFile:Go.Proofs.SlLaysF0.n6 Tryz.prog Tryz.sortFile_ren:={
 mixed:=by kernel_rfl
 f6:=⟨Tryz.f29.name,by decide,Tryz.func29.trans (congrArg some (by kernel_rfl))⟩
 f14:=⟨Tryz.f57.name,by decide,Tryz.func57.trans (congrArg some (by kernel_rfl))⟩
 f15:=Tryz.func38.trans (congrArg some (by kernel_rfl))
 f20:=⟨Tryz.f82.name,by decide,Tryz.func82.trans (congrArg some (by kernel_rfl))⟩
 f21:=⟨Tryz.f83.name,by decide,Tryz.func83.trans (congrArg some (by kernel_rfl))⟩
 f22:=⟨Tryz.f84.name,by decide,Tryz.func84.trans (congrArg some (by kernel_rfl))⟩
 f23:=⟨Tryz.f85.name,by decide,Tryz.func85.trans (congrArg some (by kernel_rfl))⟩
 f24:=⟨Tryz.f86.name,by decide,Tryz.func86.trans (congrArg some (by kernel_rfl))⟩
 f25:=⟨Tryz.f87.name,by decide,Tryz.func87.trans (congrArg some (by kernel_rfl))⟩
 f26:=⟨Tryz.f88.name,by decide,Tryz.func88.trans (congrArg some (by kernel_rfl))⟩
 f27:=⟨Tryz.f89.name,by decide,Tryz.func89.trans (congrArg some (by kernel_rfl))⟩
 f28:=Tryz.func71.trans (congrArg some (by kernel_rfl))
 f29:=Tryz.func72.trans (congrArg some (by kernel_rfl))
 f46:=⟨Tryz.f113.name,by decide,Tryz.func113.trans (congrArg some (by kernel_rfl))⟩
 f47:=Tryz.func95.trans (congrArg some (by kernel_rfl))
 f48:=Tryz.func96.trans (congrArg some (by kernel_rfl))
 f49:=⟨Tryz.f114.name,by decide,Tryz.func114.trans (congrArg some (by kernel_rfl))⟩
 f50:=⟨Tryz.f115.name,by decide,Tryz.func115.trans (congrArg some (by kernel_rfl))⟩
 f57:=⟨Tryz.f132.name,by decide,Tryz.func132.trans (congrArg some (by kernel_rfl))⟩
 t0:=Tryz.underlying0
 a0:=Tryz.isAgg0
 z0:=Tryz.sizeOf0
 v0:=Tryz.zeroValue0
 t3:=Tryz.underlying3
 a3:=Tryz.isAgg3
 z3:=Tryz.sizeOf3
 v3:=Tryz.zeroValue3
 t4:=Tryz.underlying4
 a4:=Tryz.isAgg4
 z4:=Tryz.sizeOf4
 v4:=Tryz.zeroValue4
 t5:=Tryz.underlying5
 a5:=Tryz.isAgg5
 z5:=Tryz.sizeOf5
 v5:=Tryz.zeroValue5
 t9:=Tryz.underlying9
 a9:=Tryz.isAgg9
 z9:=Tryz.sizeOf9
 v9:=Tryz.zeroValue9
 t22:=Tryz.underlying22
 a22:=Tryz.isAgg22
 z22:=Tryz.sizeOf22
 v22:=Tryz.zeroValue22
 t25:=Tryz.underlying77
 a25:=Tryz.isAgg77
 z25:=Tryz.sizeOf77
 v25:=Tryz.zeroValue77
 t39:=Tryz.underlying90
 a39:=Tryz.isAgg90
 z39:=Tryz.sizeOf90
 v39:=Tryz.zeroValue90
 t45:=Tryz.underlying127
 a45:=Tryz.isAgg127
 z45:=Tryz.sizeOf127
 v45:=Tryz.zeroValue127
 t46:=Tryz.underlying128
 a46:=Tryz.isAgg128
 z46:=Tryz.sizeOf128
 v46:=Tryz.zeroValue128
 t50:=Tryz.underlying67
 a50:=Tryz.isAgg67
 z50:=Tryz.sizeOf67
 v50:=Tryz.zeroValue67
 t53:=Tryz.underlying134
 a53:=Tryz.isAgg134
 z53:=Tryz.sizeOf134
 v53:=Tryz.zeroValue134
 t55:=Tryz.underlying97
 a55:=Tryz.isAgg97
 z55:=Tryz.sizeOf97
 v55:=Tryz.zeroValue97
 t66:=Tryz.underlying150
 a66:=Tryz.isAgg150
 z66:=Tryz.sizeOf150
 v66:=Tryz.zeroValue150
 t70:=Tryz.underlying154
 a70:=Tryz.isAgg154
 z70:=Tryz.sizeOf154
 v70:=Tryz.zeroValue154
 t76:=Tryz.underlying175
 a76:=Tryz.isAgg175
 z76:=Tryz.sizeOf175
 v76:=Tryz.zeroValue175
 t77:=Tryz.underlying176
 a77:=Tryz.isAgg176
 z77:=Tryz.sizeOf176
 v77:=Tryz.zeroValue176 }
def Tryz.sortOb_ren:Go.Shelf.Ren:=⟨fun|6=>12|15=>38|14=>37|28=>71|29=>72|20=>63|21=>64|22=>65|23=>66|24=>67|25=>68|26=>69|27=>70|46=>94|47=>95|48=>96|49=>97|50=>98|57=>123|n=>n,fun|22=>24|24=>37|25=>50|3=>3|39=>90|0=>0|53=>134|55=>97|4=>4|46=>128|45=>127|50=>67|5=>5|9=>9|66=>150|70=>154|76=>175|77=>176|n=>n,fun|n=>n⟩
theorem Tryz.sortOb:Go.Proofs.SlLaysF0.n6 Tryz.prog Tryz.sortOb_ren:={
 mixed:=by kernel_rfl
 f6:=⟨Tryz.f12.name,by decide,Tryz.func12.trans (congrArg some (by kernel_rfl))⟩
 f14:=⟨Tryz.f37.name,by decide,Tryz.func37.trans (congrArg some (by kernel_rfl))⟩
 f15:=Tryz.func38.trans (congrArg some (by kernel_rfl))
 f20:=⟨Tryz.f63.name,by decide,Tryz.func63.trans (congrArg some (by kernel_rfl))⟩
 f21:=⟨Tryz.f64.name,by decide,Tryz.func64.trans (congrArg some (by kernel_rfl))⟩
 f22:=⟨Tryz.f65.name,by decide,Tryz.func65.trans (congrArg some (by kernel_rfl))⟩
 f23:=⟨Tryz.f66.name,by decide,Tryz.func66.trans (congrArg some (by kernel_rfl))⟩
 f24:=⟨Tryz.f67.name,by decide,Tryz.func67.trans (congrArg some (by kernel_rfl))⟩
 f25:=⟨Tryz.f68.name,by decide,Tryz.func68.trans (congrArg some (by kernel_rfl))⟩
 f26:=⟨Tryz.f69.name,by decide,Tryz.func69.trans (congrArg some (by kernel_rfl))⟩
 f27:=⟨Tryz.f70.name,by decide,Tryz.func70.trans (congrArg some (by kernel_rfl))⟩
 f28:=Tryz.func71.trans (congrArg some (by kernel_rfl))
 f29:=Tryz.func72.trans (congrArg some (by kernel_rfl))
 f46:=⟨Tryz.f94.name,by decide,Tryz.func94.trans (congrArg some (by kernel_rfl))⟩
 f47:=Tryz.func95.trans (congrArg some (by kernel_rfl))
 f48:=Tryz.func96.trans (congrArg some (by kernel_rfl))
 f49:=⟨Tryz.f97.name,by decide,Tryz.func97.trans (congrArg some (by kernel_rfl))⟩
 f50:=⟨Tryz.f98.name,by decide,Tryz.func98.trans (congrArg some (by kernel_rfl))⟩
 f57:=⟨Tryz.f123.name,by decide,Tryz.func123.trans (congrArg some (by kernel_rfl))⟩
 t0:=Tryz.underlying0
 a0:=Tryz.isAgg0
 z0:=Tryz.sizeOf0
 v0:=Tryz.zeroValue0
 t3:=Tryz.underlying3
 a3:=Tryz.isAgg3
 z3:=Tryz.sizeOf3
 v3:=Tryz.zeroValue3
 t4:=Tryz.underlying4
 a4:=Tryz.isAgg4
 z4:=Tryz.sizeOf4
 v4:=Tryz.zeroValue4
 t5:=Tryz.underlying5
 a5:=Tryz.isAgg5
 z5:=Tryz.sizeOf5
 v5:=Tryz.zeroValue5
 t9:=Tryz.underlying9
 a9:=Tryz.isAgg9
 z9:=Tryz.sizeOf9
 v9:=Tryz.zeroValue9
 t22:=Tryz.underlying24
 a22:=Tryz.isAgg24
 z22:=Tryz.sizeOf24
 v22:=Tryz.zeroValue24
 t25:=Tryz.underlying50
 a25:=Tryz.isAgg50
 z25:=Tryz.sizeOf50
 v25:=Tryz.zeroValue50
 t39:=Tryz.underlying90
 a39:=Tryz.isAgg90
 z39:=Tryz.sizeOf90
 v39:=Tryz.zeroValue90
 t45:=Tryz.underlying127
 a45:=Tryz.isAgg127
 z45:=Tryz.sizeOf127
 v45:=Tryz.zeroValue127
 t46:=Tryz.underlying128
 a46:=Tryz.isAgg128
 z46:=Tryz.sizeOf128
 v46:=Tryz.zeroValue128
 t50:=Tryz.underlying67
 a50:=Tryz.isAgg67
 z50:=Tryz.sizeOf67
 v50:=Tryz.zeroValue67
 t53:=Tryz.underlying134
 a53:=Tryz.isAgg134
 z53:=Tryz.sizeOf134
 v53:=Tryz.zeroValue134
 t55:=Tryz.underlying97
 a55:=Tryz.isAgg97
 z55:=Tryz.sizeOf97
 v55:=Tryz.zeroValue97
 t66:=Tryz.underlying150
 a66:=Tryz.isAgg150
 z66:=Tryz.sizeOf150
 v66:=Tryz.zeroValue150
 t70:=Tryz.underlying154
 a70:=Tryz.isAgg154
 z70:=Tryz.sizeOf154
 v70:=Tryz.zeroValue154
 t76:=Tryz.underlying175
 a76:=Tryz.isAgg175
 z76:=Tryz.sizeOf175
 v76:=Tryz.zeroValue175
 t77:=Tryz.underlying176
 a77:=Tryz.isAgg176
 z77:=Tryz.sizeOf176
 v77:=Tryz.zeroValue176 }
end Go.Proofs
