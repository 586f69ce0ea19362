/-
  Reading the lines of a directory: Find and readEntry. No statement of the seat is proved here; no conditions.
-/
import Derived.Test.YtjfchihkhpinmaaGreatDoorTtL
import Derived.Test.YtjfchihkhpinmaaGreatDoorMsP
namespace Go.Proofs.YtjfchihkhpinmaaGreatDoor
open Go.RowKit Go.Shelf
set_option linter.unusedVariables false
set_option linter.unusedSimpArgs false
set_option maxRecDepth 100000

theorem dig_hex {b:List UInt8}{c:UInt8}(h:c∈(digV b).data.toList):c∈hexL:=by
 rw[QAF]at h
 obtain⟨j,_,rfl⟩:=List.mem_map.1 (show c∈Wz (digN b) 16 from h)
 unfold QDe
 have h0:0≤(digN b) / 16 ^ (15 - j) % 16:=Int.emod_nonneg _ (by decide)
 have h1:(digN b) / 16 ^ (15 - j) % 16<16:=Int.emod_lt_of_pos _ (by decide)
 generalize (digN b) / 16 ^ (15 - j) % 16=q at*
 have:∀ d,d<16→hexL.getD d 0∈hexL:=by decide
 exact this q.toNat (by omega)
theorem QC0 (b:List UInt8):(32:UInt8)∉(digV b).data.toList:=fun h=>absurd (dig_hex h) (by decide)
theorem QC1 (b:List UInt8):(10:UInt8)∉(digV b).data.toList:=fun h=>absurd (dig_hex h) (by decide)
theorem po_all {n:List UInt8}(h:PO n):∀ b∈n,Yj b.toNat=true:=by
 unfold PO Xj at h
 rw[Bool.and_eq_true]at h
 exact List.all_eq_true.1 h.1
theorem ix_neg {c:UInt8}(h:c=32∨c=10):Yj (c.toNat:Int)=false:=by
 rcases h with rfl|rfl
 ·have:ixB ⟨#[46,95,45,43]⟩ 32 = -1:=by decide +kernel
  unfold Yj
  rw[show((32:UInt8).toNat:Int).toNat.toUInt8=32 from rfl,this];rfl
 ·have:ixB ⟨#[46,95,45,43]⟩ 10 = -1:=by decide +kernel
  unfold Yj
  rw[show((10:UInt8).toNat:Int).toNat.toUInt8=10 from rfl,this];rfl
theorem po_no32 {n:List UInt8}(h:PO n):(32:UInt8)∉n:=fun hm=>by
 have:=po_all h _ hm
 rw[ix_neg (.inl rfl)]at this;cases this
theorem po_no10 {n:List UInt8}(h:PO n):(10:UInt8)∉n:=fun hm=>by
 have:=po_all h _ hm
 rw[ix_neg (.inr rfl)]at this;cases this
def wF:ByteArray:=⟨#[102,105,108,101]⟩
def wD:ByteArray:=⟨#[100,105,114]⟩
def wX (r:Bool):ByteArray:=if r=true then⟨#[120]⟩else⟨#[45]⟩
def Vi (tx:List FT→List UInt8):Nd→List ByteArray
 | (n,.inl f)=>[wF,bs n,digV f.2.2,wX f.2.1]
 | (n,.inr fs)=>[wD,bs n,digV (tx fs)]
theorem Ky {tx:List FT→List UInt8}{d:Nd}(h:PO d.1):Vi tx d≠[]∧∀ w∈Vi tx d,(32:UInt8)∉w.data.toList∧(10:UInt8)∉w.data.toList:=by
 obtain⟨n,f|fs⟩:=d
 ·refine⟨by simp [Vi],fun w hw=> ?_⟩
  simp only[Vi,List.mem_cons,List.not_mem_nil,or_false]at hw
  rcases hw with rfl|rfl|rfl|rfl
  ·exact⟨by decide,by decide⟩
  ·exact⟨po_no32 h,po_no10 h⟩
  ·exact⟨QC0 _,QC1 _⟩
  ·unfold wX;split<;>exact⟨by decide,by decide⟩
 ·refine⟨by simp [Vi],fun w hw=> ?_⟩
  simp only[Vi,List.mem_cons,List.not_mem_nil,or_false]at hw
  rcases hw with rfl|rfl|rfl
  ·exact⟨by decide,by decide⟩
  ·exact⟨po_no32 h,po_no10 h⟩
  ·exact⟨QC0 _,QC1 _⟩
theorem Nc {tx:List FT→List UInt8}{d:Nd} : Xm digV tx d=(Jw (Vi tx d)).data.toList++ [10]:=by
 obtain⟨n,⟨p,r,b⟩|fs⟩:=d
 ·show Xm digV tx _=Lib.join ([wF,bs n,digV b,wX r].map (·.data.toList)) [32]++ [10]
  simp only[List.map,Ko,Lib.join_one]
  cases r<;>simp [Xm,JW,wF,wX,bs]
 ·show Xm digV tx _=Lib.join ([wD,bs n,digV (tx fs)].map (·.data.toList)) [32]++ [10]
  simp only[List.map,Ko,Lib.join_one]
  simp [Xm,Mh,wD,bs]
theorem join_no {c:UInt8}(hc:c≠32):∀ {ws:List (List UInt8)},(∀ w∈ws,c∉w)→c∉Lib.join ws [32]
 | [],_=>by simp [Lib.join]
 | [x],h=>by rw[Lib.join_one];exact h x List.mem_cons_self
 | x::y::r,h=>by
  rw[Ko]
  intro hm
  rcases List.mem_append.1 hm with hm|hm
  ·exact h x List.mem_cons_self hm
  ·rcases List.mem_cons.1 hm with e|hm
   ·exact hc e
   ·exact join_no hc (fun w hw=>h w (List.mem_cons_of_mem _ hw)) hm
theorem line_no10 {tx:List FT→List UInt8}{d:Nd}(h:PO d.1):(10:UInt8)∉(Jw (Vi tx d)).data.toList:=by
 show(10:UInt8)∉Lib.join ((Vi tx d).map (·.data.toList)) [32]
 refine join_no (by decide) fun w hw=> ?_
 obtain⟨x,hx,rfl⟩:=List.mem_map.1 hw
 exact((Ky h).2 x hx).2
def fEn (tx:List FT→List UInt8):Nd→List FV
 | (n,.inl f)=>[.str (bs n),.str (digV f.2.2),.bool false,.bool f.2.1]
 | (n,.inr fs)=>[.str (bs n),.str (digV (tx fs)),.bool true,.bool false]
theorem findC_f (b:Ob) (s:ByteArray):FRet Tryz.prog 80 [.agg ((fOb b).map .f),.f (.str s)] [.c (.v (.int .i64 (cmpB b.1 s)))]:=by
 refine FCall.of_ax Kc ?_
 dsimp only[jm,ji,jf,jl,jL,jn,je,jx,jT,jC,jB,jq,jt,ju,jA,km,kf,kl,kn,kx,UJ,fOb]
 refine zrs ?_
 repeat'(first|(simp -implicitDefEqProofs only[*,zr,seval,reduceIte,reduceCtorEq])|(apply zk<;>intro hc)|(refine zp ?_)|(refine zd ?_)|(refine cP (Vm _ _) ?_)|(refine cD (Vm _ _) ?_)|(refine cF (Vm _ _) ?_)|fail)
 exact VO
theorem Find_f (O:List Ob) (hl:O.length≤1000000) (hr:QZ kOb O){x:Ob}(hx:x∈O):FRet Tryz.prog 55 [.f (XJ O),.f (.str x.1)] [.c (.v (frB x.2)),.c (.v (.bool true))]:=by
 have k:=bs_ob O x.1 80 (fun b=>cmpB b.1 x.1) hl (fun y _=>findC_f y x.1) (UV hr x.1)
 have hk:hasK kOb O x.1=true:=List.any_eq_true.2 ⟨x,hx,by simp [kOb]⟩
 rw[show Jz (fun b:Ob=>cmpB b.1 x.1) O=hasK kOb O x.1 from Kw (key:=kOb) hr x.1,hk]at k
 obtain⟨y,hy,he⟩:=bs_at hr hk
 have hyx:y=x:=by
  obtain⟨i,hi⟩:=List.mem_iff_getElem?.1 hx
  rcases Nat.lt_trichotomy i (YJ (fun b:Ob=>cmpB (kOb b) x.1) O)with h|h|h
  ·exact absurd (hr _ _ _ _ h hi hy) (by rw[he];simp [kOb,Qv])
  ·rw[h,hy]at hi;exact Option.some.inj hi
  ·exact absurd (hr _ _ _ _ h hy hi) (by rw[he];simp [kOb,Qv])
 subst hyx
 have hix:YJ (fun b:Ob=>cmpB (kOb b) y.1) O=YJ (fun b:Ob=>cmpB b.1 y.1) O:=rfl
 rw[hix]at hy
 have hlt:=(List.getElem?_eq_some_iff.1 hy).1
 have hy1:(O.map fOb)[YJ (fun b:Ob=>cmpB b.1 y.1) O]? = some (fOb y):=by rw[List.getElem?_map,hy];rfl
 have h2:=eq_true hlt
 generalize YJ (fun b:Ob=>cmpB b.1 y.1) O=ix at*
 obtain⟨d,b⟩:=y
 dsimp only[fOb]at*
 refine FCall.of_ax Ol ?_
 dsimp only[jm,ji,jf,jl,jL,jn,je,jx,jT,jC,jB,jq,jt,ju,jA,km,kf,kl,kn,kx,Nm,XJ]
 refine zrs ?_
 repeat'(first|(simp -implicitDefEqProofs only[*,zr,seval,reduceIte,reduceCtorEq])|(apply zk<;>intro hc)|(refine zp ?_)|(refine zd ?_)|(refine cP (k) ?_)|(refine cD (k) ?_)|(refine cF (k) ?_)|fail)
 exact NI
end Go.Proofs.YtjfchihkhpinmaaGreatDoor
namespace Go.Proofs.YtjfchihkhpinmaaGreatDoor
open Go.RowKit Go.Shelf
set_option linter.unusedVariables false
set_option linter.unusedSimpArgs false
set_option maxRecDepth 100000

theorem line_sz {tx:List FT→List UInt8}{d:Nd}(h:d.1.length≤1000):(Jw (Vi tx d)).size≤10000:=by
 have h1:=QA9 (tx:=tx) h
 rw[Nc,List.length_append]at h1
 have:(Jw (Vi tx d)).data.toList.length=(Jw (Vi tx d)).size:=by simp
 omega
theorem QBs {a b c d x:FV}{H:Heap} : Rets [.agg [.v a,.v b,.v c,.v d],.c (.v x)] (.tup [.agg [.f a,.f b,.f c,.f d],.f x]) H:=
 ⟨[_,_],rfl,⟨⟨rfl,rfl,rfl,rfl,rfl⟩,rfl,rfl⟩,by simp [idsS,idsC]⟩
set_option maxHeartbeats 2000000 in
theorem QBt (tx:List FT→List UInt8) (d:Nd) (hP:PO d.1) (hn:d.1.length≤1000):FRet Tryz.prog 81 [.f (.str (Jw (Vi tx d)))] [.agg ((fEn tx d).map .v),.c (.v (.bool true))]:=by
 have kS:=split_f (Jw (Vi tx d)) 32 (by have:=line_sz (tx:=tx) hn;omega)
 rw[QDK (Ky hP).1 fun w hw=>((Ky (tx:=tx) hP).2 w hw).1]at kS
 have kP:=QCr (bs d.1) (by rw[Jy];omega)
 rw[show Xj (bs d.1)=true from hP]at kP
 have q1:decide (((4:Nat):Int)=4)=true:=by decide
 have q2:decide (((3:Nat):Int)=4)=false:=by decide
 have q3:decide (((3:Nat):Int)=3)=true:=by decide
 obtain⟨n,⟨p,_|_,b⟩|fs⟩:=d
 ·have kD:=Xy (digV b)
  rw[Xz]at kD
  generalize Jw (Vi tx (n,.inl (p,false,b)))=S at*
  simp only[Vi,KN,List.map]at kS
  dsimp only at kP
  dsimp only[fEn,List.map]
  generalize digV b=dv at*
  generalize bs n=N at*
  have z1:sep 32=⟨#[32]⟩:=rfl
  rw[z1]at kS
  have d1:decide (wF=⟨#[102,105,108,101]⟩)=true:=by decide
  have d2:decide (wF=⟨#[100,105,114]⟩)=false:=by decide
  have d3:decide (wX false=⟨#[120]⟩)=false:=by decide
  have d4:decide (wX false=⟨#[45]⟩)=true:=by decide
  generalize wF=W0 at*
  generalize wX false=W3 at*
  clear z1
  refine FCall.of_ax Xd ?_
  dsimp only[jm,ji,jf,jl,jL,jn,je,jx,jT,jC,jB,jq,jt,ju,jA,km,kf,kl,kn,kx,XR]
  refine zrs ?_
  repeat'(first|(simp -implicitDefEqProofs only[*,zr,seval,reduceIte,reduceCtorEq])|(refine zp ?_)|(refine zd ?_)|(refine cP (kS) ?_)|(refine cD (kS) ?_)|(refine cF (kS) ?_)|(refine cP (kP) ?_)|(refine cD (kP) ?_)|(refine cF (kP) ?_)|(refine cP (kD) ?_)|(refine cD (kD) ?_)|(refine cF (kD) ?_)|fail)
  exact QBs
 ·have kD:=Xy (digV b)
  rw[Xz]at kD
  generalize Jw (Vi tx (n,.inl (p,true,b)))=S at*
  simp only[Vi,KN,List.map]at kS
  dsimp only at kP
  dsimp only[fEn,List.map]
  generalize digV b=dv at*
  generalize bs n=N at*
  have z1:sep 32=⟨#[32]⟩:=rfl
  rw[z1]at kS
  have d1:decide (wF=⟨#[102,105,108,101]⟩)=true:=by decide
  have d2:decide (wF=⟨#[100,105,114]⟩)=false:=by decide
  have d3:decide (wX true=⟨#[120]⟩)=true:=by decide
  have d4:decide (wX true=⟨#[45]⟩)=false:=by decide
  generalize wF=W0 at*
  generalize wX true=W3 at*
  clear z1
  refine FCall.of_ax Xd ?_
  dsimp only[jm,ji,jf,jl,jL,jn,je,jx,jT,jC,jB,jq,jt,ju,jA,km,kf,kl,kn,kx,XR]
  refine zrs ?_
  repeat'(first|(simp -implicitDefEqProofs only[*,zr,seval,reduceIte,reduceCtorEq])|(refine zp ?_)|(refine zd ?_)|(refine cP (kS) ?_)|(refine cD (kS) ?_)|(refine cF (kS) ?_)|(refine cP (kP) ?_)|(refine cD (kP) ?_)|(refine cF (kP) ?_)|(refine cP (kD) ?_)|(refine cD (kD) ?_)|(refine cF (kD) ?_)|fail)
  exact QBs
 ·have kD:=Xy (digV (tx fs))
  rw[Xz]at kD
  generalize Jw (Vi tx (n,.inr fs))=S at*
  simp only[Vi,KN,List.map]at kS
  dsimp only at kP
  dsimp only[fEn,List.map]
  generalize digV (tx fs)=dv at*
  generalize bs n=N at*
  have z1:sep 32=⟨#[32]⟩:=rfl
  rw[z1]at kS
  have d2:decide (wD=⟨#[100,105,114]⟩)=true:=by decide
  have d1:decide (wD=⟨#[102,105,108,101]⟩)=false:=by decide
  generalize wD=W0 at*
  clear z1
  refine FCall.of_ax Xd ?_
  dsimp only[jm,ji,jf,jl,jL,jn,je,jx,jT,jC,jB,jq,jt,ju,jA,km,kf,kl,kn,kx,XR]
  refine zrs ?_
  repeat'(first|(simp -implicitDefEqProofs only[*,zr,seval,reduceIte,reduceCtorEq])|(refine zp ?_)|(refine zd ?_)|(refine cP (kS) ?_)|(refine cD (kS) ?_)|(refine cF (kS) ?_)|(refine cP (kP) ?_)|(refine cD (kP) ?_)|(refine cF (kP) ?_)|(refine cP (kD) ?_)|(refine cD (kD) ?_)|(refine cF (kD) ?_)|fail)
  exact QBs
end Go.Proofs.YtjfchihkhpinmaaGreatDoor
namespace Go.Proofs.YtjfchihkhpinmaaGreatDoor
open Go.RowKit Go.Shelf
set_option linter.unusedVariables false
set_option linter.unusedSimpArgs false
set_option maxRecDepth 100000

theorem Nx (tx:List FT→List UInt8) (d:Nd):(fEn tx d).length=4:=by obtain⟨n,f|fs⟩:=d<;>rfl
theorem fEn_of (tx:List FT→List UInt8) (d:Nd):∃ a b c,fEn tx d = [.str (bs d.1),a,b,c]∧a.isOne=true∧b.isOne=true∧c.isOne=true:=by
 obtain⟨n,f|fs⟩:=d<;>exact⟨_,_,_,rfl,rfl,rfl,rfl⟩
theorem txL_drop {tx:List FT→List UInt8}{L:List Nd}{s:Nat}{d:Nd}(h:L[s]? = some d):txL tx (L.drop s)=(Jw (Vi tx d)).data.toList++10::txL tx (L.drop (s+1)):=by
 obtain⟨hlt,he⟩:=List.getElem?_eq_some_iff.1 h
 rw[List.drop_eq_getElem_cons hlt,he]
 unfold txL
 rw[List.flatMap_cons,Nc]
 simp
theorem ltN_lt {L:List Nd}(h:Srt ltN L){i:Nat}{x y:Nd}(hx:L[i]? = some x) (hy:L[i+1]? = some y):strLt (bs y.1) (bs x.1)=false∧decide (bs y.1=bs x.1)=false:=by
 obtain⟨h1,h2⟩:=List.getElem?_eq_some_iff.1 hx
 obtain⟨h3,h4⟩:=List.getElem?_eq_some_iff.1 hy
 have h5:=List.pairwise_iff_getElem.1 h i (i+1) h1 h3 (Nat.lt_succ_self i)
 rw[h2,h4]at h5
 have h6:strLt (bs x.1) (bs y.1)=true:=by rw[Vj];exact h5
 refine⟨ND h6,decide_eq_false fun e=> ?_⟩
 rw[e,Qv]at h6
 cases h6
set_option maxHeartbeats 4000000 in
theorem readDir_f (tx:List FT→List UInt8) (L:List Nd) (hL:L.length≤1000) (hP:∀ d∈L,PO d.1∧d.1.length≤1000) (hS:Srt ltN L) (hB:(txL tx L).length≤140737488355328):FRet Tryz.prog 56 [.f (frB (txL tx L))] [.c (.own 4 L.length (rowF (fEn tx) L)),.c (.v (.bool true))]:=by
 have hTL:=hide (show ∀ s,(txL tx (L.drop s)).length≤140737488355328 from fun s=>by
  have:txL tx (L.take s)++txL tx (L.drop s)=txL tx L:=by unfold txL;rw[← List.flatMap_append,List.take_append_drop]
  rw[← this,List.length_append]at hB
  omega)
 have hPP:=hide hP
 have hSS:=hide hS
 clear hP hS
 refine FCall.of_ax KZ ?_
 dsimp only[jm,ji,jf,jl,jL,jn,je,jx,jT,jC,jB,jq,jt,ju,jA,km,kf,kl,kn,kx,UG,frB]
 refine zrs ?_
 repeat'(first|(simp -implicitDefEqProofs only[*,zr,seval,reduceIte,reduceCtorEq])|(refine zp ?_)|(refine zd ?_)|fail)
 clear hB
 refine QK (S:=Nat) 55 [] [] (fun s=>[(4,.sl 60900 1 4 0 s),(5,.f (.str (bs (txL tx (L.drop s)))))]) (fun s=>[(60900,1,AObj.cells ((rowF (fEn tx) (L.take s)).map .f))]) (fun s=>s≤L.length) (fun s=>L.length - s) (0) [60900] ?_ ?_ fun s hs=> ?_
 ·exact Nat.zero_le _
 ·refine wk_i ?_ ?_<;>simp only[List.take_zero,List.drop_zero,zw,seval,reduceIte,reduceCtorEq]
  all_goals first|rfl|exact Or.inl rfl
 rcases Nat.lt_or_ge s L.length with hlt|hge
 ·obtain⟨d,hx⟩:=QH hlt
  have htk:L.take (s+1)=L.take s++ [d]:=by rw[List.take_add_one,hx];rfl
  have hdr:=txL_drop (tx:=tx) hx
  obtain⟨hp1,hp2⟩:=hPP.out d (List.mem_of_getElem? hx)
  have hsz:(bs (txL tx (L.drop s))).size≤140737488355328:=by rw[Jy];exact hTL.out s
  have kC:=cut_f1 (bs (txL tx (L.drop s))) 10 (by omega)
  rw[cut_hit (s:=bs (txL tx (L.drop s))) (x:=(Jw (Vi tx d)).data.toList) (r:=txL tx (L.drop (s+1))) hdr (line_no10 hp1)]at kC
  have kE:=QBt tx d hp1 hp2
  have hne:decide (bs (txL tx (L.drop s))=⟨#[]⟩)=false:=decide_eq_false fun e=>by
   have:=congrArg ByteArray.size e
   rw[Jy,hdr,List.length_append,List.length_cons,show(⟨#[]⟩:ByteArray).size=0 from rfl]at this
   omega
  have e1:(⟨(Jw (Vi tx d)).data.toList.toArray⟩:ByteArray)=Jw (Vi tx d):=by apply Yk;rfl
  rw[e1,show(⟨(txL tx (L.drop (s+1))).toArray⟩:ByteArray)=bs (txL tx (L.drop (s+1)))from rfl]at kC
  have hprev:∀ y,L[s - 1]? = some y→0<s→strLt (bs d.1) (bs y.1)=false∧decide (bs d.1=bs y.1)=false:=fun y hy h0=>ltN_lt hSS.out hy (by rw[show s - 1+1=s by omega];exact hx)
  have hlast:∀ y,L[s - 1]? = some y→0<s→((rowF (fEn tx) (L.take s)).map AV.f)[(s - 1)*4]? = some (.f (.str (bs y.1))):=fun y hy h0=>by
   obtain⟨a,b,c,he,_⟩:=fEn_of tx y
   have:=Jh (enc:=fEn tx) (sz:=4) (l:=L.take s) (i:=s - 1) (j:=0) (x:=y) (a:= .str (bs y.1)) (Nx tx) (by rw[List.getElem?_take_of_lt (by omega)];exact hy) (by rw[he];rfl)
   exact this
  obtain⟨a,b,c,he,ho1,ho2,ho3⟩:=fEn_of tx d
  have hrow:(rowF (fEn tx) (L.take (s+1))).map AV.f=(rowF (fEn tx) (L.take s)).map AV.f++ [.f (.str (bs d.1)),.f a,.f b,.f c]:=by
   rw[htk,Vy,he,List.map_append];rfl
  have hcl:((rowF (fEn tx) (L.take s)).map AV.f).length=s*4:=by rw[List.length_map,QD (Nx tx),List.length_take,Nat.min_eq_left hs]
  rw[he]at kE
  dsimp only[List.map]at kE kC
  generalize (rowF (fEn tx) (L.take s)).map AV.f=C at*
  generalize Jw (Vi tx d)=LN at*
  generalize bs (txL tx (L.drop s))=S0 at*
  have hg:=eq_true (show(s+1)*40≤140737488355328 by omega)
  replace hrow:=hide hrow
  clear hdr e1 htk he hsz
  rcases Nat.eq_zero_or_pos s with h0|hpos
  ·have d0:decide ((0:Int)<(s:Int))=false:=dcF (by omega)
   replace h0:=hide h0
   clear hprev hlast
   refine zrs ?_
   repeat'(first|(simp -implicitDefEqProofs only[*,QE,zr,seval,reduceIte,reduceCtorEq])|(refine zp ?_)|(refine zd ?_)|(refine cP (kC) ?_)|(refine cD (kC) ?_)|(refine cF (kC) ?_)|(refine cO (kC) ?_)|(refine cP (kE) ?_)|(refine cD (kE) ?_)|(refine cF (kE) ?_)|(refine cO (kE) ?_)|fail)
   refine⟨s+1,hlt,by omega,?_⟩
   rw[hrow.out]
   refine wk_i ?_ ?_<;>simp only[zw,seval,reduceIte,reduceCtorEq]
   all_goals (rw[← hrow.out];exact Vs)
  ·obtain⟨y,hy⟩:=QH (l:=L) (i:=s - 1) (by omega)
   have d0:decide ((0:Int)<(s:Int))=true:=dcT (by omega)
   have h6:IntKind.i64.wrap ((s:Int) - 1)=((s - 1:Nat):Int):=by rw[QR]<;>omega
   obtain⟨u1,u2⟩:=hprev y hy hpos
   have u3:=hlast y hy hpos
   have u4:=eq_true (show s - 1<s by omega)
   have u5:=eq_true (show s - 1+1≤s by omega)
   have u6:=eq_true (show(s - 1)*4+4≤C.length by omega)
   have u7:=eq_true (show(s - 1)*4+1≤C.length by omega)
   have u8:=eq_true (show(s - 1)*4<C.length by omega)
   clear hprev hlast
   replace hpos:=hide hpos
   refine zrs ?_
   repeat'(first|(simp -implicitDefEqProofs only[*,QE,zr,seval,reduceIte,reduceCtorEq])|(refine zp ?_)|(refine zd ?_)|(refine cP (kC) ?_)|(refine cD (kC) ?_)|(refine cF (kC) ?_)|(refine cO (kC) ?_)|(refine cP (kE) ?_)|(refine cD (kE) ?_)|(refine cF (kE) ?_)|(refine cO (kE) ?_)|fail)
   refine⟨s+1,hlt,by omega,?_⟩
   rw[hrow.out]
   refine wk_i ?_ ?_<;>simp only[zw,seval,reduceIte,reduceCtorEq]
   all_goals (rw[← hrow.out];exact Vs)
 ·obtain rfl:s=L.length:=by omega
  have h3:=List.take_length (l:=L)
  have hne:decide (bs (txL tx (L.drop L.length))=⟨#[]⟩)=true:=by rw[List.drop_length];rfl
  clear hTL hPP hSS
  generalize bs (txL tx (L.drop L.length))=S0 at*
  refine zrs ?_
  repeat'(first|(simp -implicitDefEqProofs only[*,zr,seval,reduceIte,reduceCtorEq])|(refine zp ?_)|(refine zd ?_)|fail)
  exact QCf rfl (by rw[QD (Nx tx)];exact Nat.le_refl _) rfl
def QDh (tx:List FT→List UInt8) (L:List Nd):FV:= .fr 4 (L.map (fEn tx))
theorem QAk (k:Nat) (l:List FT) (hG:Gd PO l) (hz:Sz l):FRet Tryz.prog 56 [.f (frB (txt digV (k+1) l))] [.c (.v (QDh (txt digV k) (nds l))),.c (.v (.bool true))]:=by
 have h:=readDir_f (txt digV k) (nds l) (by have:=JD l;have:=hz.len;omega) (fun d hd=>by
  have hg:=Vg.1 hd
  have hn:=UB hz hd
  refine⟨?_,by omega⟩
  obtain⟨n,f|fs⟩:=d
  ·exact(hG.file hg).2.2
  ·exact(hG.dir hg).2) (Ma hG).srt (by have:=UN (k:=k+1) hz;exact Nat.le_trans this (by decide))
 exact h.frz (ys:=[QDh (txt digV k) (nds l),.bool true]) ⟨⟨(nds l).map (fEn (txt digV k)),rfl,by rw[List.length_map],fun r hr=>by
   obtain⟨x,_,rfl⟩:=List.mem_map.1 hr
   exact Nx _ x,by
   rw[List.take_of_length_le (by rw[QD (Nx _)];exact Nat.le_refl _)];rfl⟩,rfl,rfl⟩
end Go.Proofs.YtjfchihkhpinmaaGreatDoor
