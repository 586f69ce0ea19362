/-
  Receivers: data, checks, searches. No statement of the seat is proved here; no conditions.
-/
import Derived.Test.YtjfchihkhpinmaaGreatDoorWrP
import Derived.Test.YtjfchihkhpinmaaGreatDoorLowA
import Derived.Test.YtjfchihkhpinmaaGreatDoorLay
import Derived.Lib.SlTrimSet
namespace Go.Proofs.YtjfchihkhpinmaaGreatDoor
open Go.RowKit Go.Shelf
set_option linter.unusedVariables false
set_option linter.unusedSimpArgs false
set_option maxRecDepth 100000

theorem Yo (n l h:Int):FRet Tryz.prog 20 [.f (.int .i64 n),.f (.int .i64 l),.f (.int .i64 h)] [.c (.v (.bool (inRg n l h)))]:=by
 refine FCall.of_ax NR ?_
 dsimp only[jm,ji,jf,jl,jL,jn,je,jx,jT,jC,jB,jq,jt,ju,jA,km,kf,kl,kn,kx,WB]
 refine QP 100 _ _ _ _ ?_
 repeat'(first|(simp -implicitDefEqProofs only[*,zr,seval,reduceIte,reduceCtorEq])|(apply zk<;>intro hc)|(refine zp ?_)|(refine zd ?_)|fail)
 all_goals (refine Xp ?_;simp only[inRg, *,Bool.true_and,Bool.false_and])
theorem trim_f (s:ByteArray) (hs:s.size≤9223372036854775807):FRet Tryz.prog 75 [.f (.str s),.f (.str ⟨#[48,49,50,51,52,53,54,55,56,57,97,98,99,100,101,102]⟩)] [.c (.v (.str ⟨(Lib.trimS s.data.toList hexS).toArray⟩))]:=
 Jo (by kernel_rfl) fun G Z w vs h1 h2=>by
  obtain⟨v0,v1,rfl,r0,r1⟩:=args2 h1 h2
  obtain rfl:=r0.str_
  obtain rfl:=r1.str_
  have hcon:=Any.strings_Trim_laid Tryz.lays160 (by kernel_rfl) s ⟨#[48,49,50,51,52,53,54,55,56,57,97,98,99,100,101,102]⟩ w hs (by decide) (ascii_of_all (by decide))
  change Calls Tryz.prog 75 _ _ _ at hcon
  exact hcon.mono fun e w' ⟨he,hb⟩=>⟨_,he,fun Z'=> .str _,hb⟩
theorem Vm (a b:ByteArray):FRet Tryz.prog 14 [.f (.str a),.f (.str b)] [.c (.v (.int .i64 (cmpB a b)))]:=
 Jo (by kernel_rfl) fun G Z w vs h1 h2=>by
  obtain⟨v0,v1,rfl,r0,r1⟩:=args2 h1 h2
  obtain rfl:=r0.str_
  obtain rfl:=r1.str_
  have hcon:=Any.strings_Compare Tryz.lays106 a b w
  change Calls Tryz.prog 14 _ _ _ at hcon
  exact hcon.mono fun e w' ⟨he,hb⟩=>⟨_,he,fun Z'=> .int _ _,by rw[hb];exact Below.refl _ _⟩
theorem Xy (s:ByteArray):FRet Tryz.prog 46 [.f (.str s)] [.c (.v (.bool (XZ s)))]:=by
 refine FCall.of_ax Ww ?_
 dsimp only[jm,ji,jf,jl,jL,jn,je,jx,jT,jC,jB,jq,jt,ju,jA,km,kf,kl,kn,kx,JU]
 refine zrs ?_
 by_cases h16:s.size=16
 ·have h1:decide ((s.size:Int)=16)=true:=by simp;omega
  have h2:XZ s=decide ((⟨(Lib.trimS s.data.toList hexS).toArray⟩:ByteArray)=⟨#[]⟩):=by
   unfold XZ
   rw[show(s.size == 16)=true by simpa using h16,Bool.true_and]
   cases h:Lib.trimS s.data.toList hexS<;>simp
  rw[h2]
  clear h16 h2
  repeat'(first|(simp -implicitDefEqProofs only[*,zr,seval,reduceIte,reduceCtorEq])|(apply zk<;>intro hc)|(refine zp ?_)|(refine zd ?_)|(refine cP (trim_f s (by simp at h1;omega)) ?_)|(refine cD (trim_f s (by simp at h1;omega)) ?_)|(refine cF (trim_f s (by simp at h1;omega)) ?_)|fail)
  exact VO
 ·have h1:decide ((s.size:Int)=16)=false:=by simp;omega
  have h2:XZ s=false:=by unfold XZ;rw[show(s.size == 16)=false by simpa using h16];rfl
  rw[h2]
  clear h16 h2
  repeat'(first|(simp -implicitDefEqProofs only[*,zr,seval,reduceIte,reduceCtorEq])|(apply zk<;>intro hc)|(refine zp ?_)|(refine zd ?_)|fail)
  exact VO
theorem doneAtC_f (b:Ob) (s:ByteArray):FRet Tryz.prog 54 [.agg ((fOb b).map .f),.f (.str s)] [.c (.v (.int .i64 (cmpB b.1 s)))]:=by
 refine FCall.of_ax Uv ?_
 dsimp only[jm,ji,jf,jl,jL,jn,je,jx,jT,jC,jB,jq,jt,ju,jA,km,kf,kl,kn,kx,Zo,fOb]
 refine zrs ?_
 repeat'(first|(simp -implicitDefEqProofs only[*,zr,seval,reduceIte,reduceCtorEq])|(apply zk<;>intro hc)|(refine zp ?_)|(refine zd ?_)|(refine cP (Vm _ _) ?_)|(refine cD (Vm _ _) ?_)|(refine cF (Vm _ _) ?_)|fail)
 exact VO
theorem partAtC_f (b:Pt) (s:ByteArray):FRet Tryz.prog 108 [.agg ((fPt b).map .f),.f (.str s)] [.c (.v (.int .i64 (cmpB b.1 s)))]:=by
 refine FCall.of_ax Uu ?_
 dsimp only[jm,ji,jf,jl,jL,jn,je,jx,jT,jC,jB,jq,jt,ju,jA,km,kf,kl,kn,kx,Zn,fPt]
 refine zrs ?_
 repeat'(first|(simp -implicitDefEqProofs only[*,zr,seval,reduceIte,reduceCtorEq])|(apply zk<;>intro hc)|(refine zp ?_)|(refine zd ?_)|(refine cP (Vm _ _) ?_)|(refine cD (Vm _ _) ?_)|(refine cF (Vm _ _) ?_)|fail)
 exact VO
theorem wrapu64 {n:Int}(h1:0≤n) (h2:n≤18446744073709551615):IntKind.u64.wrap n=n:=by
 rw[IntKind.wrap_u64];omega
theorem bs_ob (l:List Ob) (tgt:ByteArray) (fn:FuncId) (cf:Ob→Int) (hl:l.length≤1000000) (hcmp:∀ x∈l,FRet Tryz.prog fn [.agg ((fOb x).map .f),.f (.str tgt)] [.c (.v (.int .i64 (cf x)))]) (hmono:∀ (i j:Nat) x y,i≤j→l[i]? = some x→l[j]? = some y→cf y<0→cf x<0) :
  FRet Tryz.prog 53 [.f (.fr 2 (l.map fOb)),.f (.str tgt),.f (.fn (.func fn))] [.c (.v (.int .i64 (YJ cf l))),.c (.v (.bool (Jz cf l)))]:=by
 refine FCall.of_ax VH ?_
 dsimp only[jm,ji,jf,jl,jL,jn,je,jx,jT,jC,jB,jq,jt,ju,jA,km,kf,kl,kn,kx,Qj]
 refine zrs ?_
 repeat'(first|(simp -implicitDefEqProofs only[*,zr,seval,reduceIte,reduceCtorEq])|(apply zk<;>intro hc)|(refine zp ?_)|(refine zd ?_)|fail)
 refine QK (S:=Nat × Nat) 49 [0,1,2,8] [] (fun s=>[(9,.f (.int .i64 s.1)),(10,.f (.int .i64 s.2))]) (fun s=>[]) (fun s=>s.1≤s.2∧s.2≤l.length∧(∀ (m:Nat) x,m<s.1→l[m]? = some x→cf x<0)∧(∀ (m:Nat) x,s.2≤m→l[m]? = some x→¬ cf x<0)) (fun s=>s.2 - s.1) (0,l.length) [] ?_ ?_ fun s hs=> ?_
 ·exact⟨Nat.zero_le _,Nat.le_refl _,fun m x h=>absurd h (by omega),fun m x h hx=>by have:=(List.getElem?_eq_some_iff.1 hx).1;omega⟩
 ·refine wk_i ?_ ?_<;>simp only[zw,seval,reduceIte,reduceCtorEq]
 obtain⟨i,j⟩:=s
 obtain⟨hij,hj,hlo,hhi⟩:=hs
 dsimp only at hij hj hlo hhi ⊢
 refine zrs ?_
 rcases Nat.lt_or_ge i j with hlt|hge
 ·have h2:=lt_t hlt
  have hw1:IntKind.i64.wrap ((i:Int)+j)=((i+j:Nat):Int):=by rw[QR]<;>omega
  have hw2:IntKind.u64.wrap ((i+j:Nat):Int)=((i+j:Nat):Int):=wrapu64 (by omega) (by omega)
  have hw3:Int.fdiv ((i+j:Nat):Int) (2 ^ min 1 IntKind.u64.bits)=(((i+j) / 2:Nat):Int):=by
   rw[show min 1 IntKind.u64.bits=1 from rfl,Int.fdiv_eq_ediv_of_nonneg _ (by decide)];omega
  have hw4:IntKind.i64.wrap (((i+j) / 2:Nat):Int)=(((i+j) / 2:Nat):Int):=by rw[QR]<;>omega
  have hw5:IntKind.i64.wrap ((((i+j) / 2:Nat):Int)+1)=(((i+j) / 2+1:Nat):Int):=by rw[QR]<;>omega
  obtain⟨x,hx⟩:=QH (l:=l) (i:=(i+j) / 2) (by omega)
  have hm:=List.mem_of_getElem? hx
  generalize hmid:(i+j) / 2=mid at hw3 hw4 hw5 hx
  have hi1:i≤mid:=by omega
  have hi2:mid<j:=by omega
  clear hmid
  repeat'(first|(simp -implicitDefEqProofs only[*,List.getElem?_map,Option.map_some,fOb,zr,seval,reduceIte,reduceCtorEq])|(apply zk<;>intro hc)|(refine zp ?_)|(refine zd ?_)|(refine cP (hcmp x hm) ?_)|(refine cD (hcmp x hm) ?_)|(refine cF (hcmp x hm) ?_)|fail)
  ·refine⟨(mid+1,j),⟨hi2,hj,fun m y h1 h3=>hmono m mid y x (by omega) h3 hx (of_decide_eq_true hc),hhi⟩,by simp only;omega,?_⟩
   refine wk_i ?_ ?_<;>simp only[zw,seval,reduceIte,reduceCtorEq]
  ·refine⟨(i,mid),⟨hi1,by omega,hlo,fun m y h1 h3 h4=>of_decide_eq_false hc (hmono mid m x y h1 hx h3 h4)⟩,by simp only;omega,?_⟩
   refine wk_i ?_ ?_<;>simp only[zw,seval,reduceIte,reduceCtorEq]
 ·obtain rfl:i=j:=by omega
  have hidx:YJ cf l=i:=WW hj hlo hhi
  have h2:=lt_f hge
  rcases Nat.lt_or_ge i l.length with h3|h3
  ·obtain⟨x,hx⟩:=QH h3
   have hhit:Jz cf l=decide (cf x=0):=by rw[Jz,hidx,hx]
   rw[hidx,hhit]
   have h4:=lt_t h3
   repeat'(first|(simp -implicitDefEqProofs only[*,List.getElem?_map,Option.map_some,fOb,zr,seval,reduceIte,reduceCtorEq])|(apply zk<;>intro hc)|(refine zp ?_)|(refine zd ?_)|(refine cP (hcmp x (List.mem_of_getElem? hx)) ?_)|(refine cD (hcmp x (List.mem_of_getElem? hx)) ?_)|(refine cF (hcmp x (List.mem_of_getElem? hx)) ?_)|fail)
   exact NI
  ·have hhit:Jz cf l=false:=by rw[Jz,hidx,List.getElem?_eq_none h3]
   rw[hidx,hhit]
   have h4:=lt_f h3
   repeat'(first|(simp -implicitDefEqProofs only[*,zr,seval,reduceIte,reduceCtorEq])|(apply zk<;>intro hc)|(refine zp ?_)|(refine zd ?_)|fail)
   exact NI

theorem bs_pt (l:List Pt) (tgt:ByteArray) (fn:FuncId) (cf:Pt→Int) (hl:l.length≤1000000) (hcmp:∀ x∈l,FRet Tryz.prog fn [.agg ((fPt x).map .f),.f (.str tgt)] [.c (.v (.int .i64 (cf x)))]) (hmono:∀ (i j:Nat) x y,i≤j→l[i]? = some x→l[j]? = some y→cf y<0→cf x<0) :
  FRet Tryz.prog 107 [.f (.fr 3 (l.map fPt)),.f (.str tgt),.f (.fn (.func fn))] [.c (.v (.int .i64 (YJ cf l))),.c (.v (.bool (Jz cf l)))]:=by
 refine FCall.of_ax VA ?_
 dsimp only[jm,ji,jf,jl,jL,jn,je,jx,jT,jC,jB,jq,jt,ju,jA,km,kf,kl,kn,kx,Qg]
 refine zrs ?_
 repeat'(first|(simp -implicitDefEqProofs only[*,zr,seval,reduceIte,reduceCtorEq])|(apply zk<;>intro hc)|(refine zp ?_)|(refine zd ?_)|fail)
 refine QK (S:=Nat × Nat) 49 [0,1,2,8] [] (fun s=>[(9,.f (.int .i64 s.1)),(10,.f (.int .i64 s.2))]) (fun s=>[]) (fun s=>s.1≤s.2∧s.2≤l.length∧(∀ (m:Nat) x,m<s.1→l[m]? = some x→cf x<0)∧(∀ (m:Nat) x,s.2≤m→l[m]? = some x→¬ cf x<0)) (fun s=>s.2 - s.1) (0,l.length) [] ?_ ?_ fun s hs=> ?_
 ·exact⟨Nat.zero_le _,Nat.le_refl _,fun m x h=>absurd h (by omega),fun m x h hx=>by have:=(List.getElem?_eq_some_iff.1 hx).1;omega⟩
 ·refine wk_i ?_ ?_<;>simp only[zw,seval,reduceIte,reduceCtorEq]
 obtain⟨i,j⟩:=s
 obtain⟨hij,hj,hlo,hhi⟩:=hs
 dsimp only at hij hj hlo hhi ⊢
 refine zrs ?_
 rcases Nat.lt_or_ge i j with hlt|hge
 ·have h2:=lt_t hlt
  have hw1:IntKind.i64.wrap ((i:Int)+j)=((i+j:Nat):Int):=by rw[QR]<;>omega
  have hw2:IntKind.u64.wrap ((i+j:Nat):Int)=((i+j:Nat):Int):=wrapu64 (by omega) (by omega)
  have hw3:Int.fdiv ((i+j:Nat):Int) (2 ^ min 1 IntKind.u64.bits)=(((i+j) / 2:Nat):Int):=by
   rw[show min 1 IntKind.u64.bits=1 from rfl,Int.fdiv_eq_ediv_of_nonneg _ (by decide)];omega
  have hw4:IntKind.i64.wrap (((i+j) / 2:Nat):Int)=(((i+j) / 2:Nat):Int):=by rw[QR]<;>omega
  have hw5:IntKind.i64.wrap ((((i+j) / 2:Nat):Int)+1)=(((i+j) / 2+1:Nat):Int):=by rw[QR]<;>omega
  obtain⟨x,hx⟩:=QH (l:=l) (i:=(i+j) / 2) (by omega)
  have hm:=List.mem_of_getElem? hx
  generalize hmid:(i+j) / 2=mid at hw3 hw4 hw5 hx
  have hi1:i≤mid:=by omega
  have hi2:mid<j:=by omega
  clear hmid
  repeat'(first|(simp -implicitDefEqProofs only[*,List.getElem?_map,Option.map_some,fPt,zr,seval,reduceIte,reduceCtorEq])|(apply zk<;>intro hc)|(refine zp ?_)|(refine zd ?_)|(refine cP (hcmp x hm) ?_)|(refine cD (hcmp x hm) ?_)|(refine cF (hcmp x hm) ?_)|fail)
  ·refine⟨(mid+1,j),⟨hi2,hj,fun m y h1 h3=>hmono m mid y x (by omega) h3 hx (of_decide_eq_true hc),hhi⟩,by simp only;omega,?_⟩
   refine wk_i ?_ ?_<;>simp only[zw,seval,reduceIte,reduceCtorEq]
  ·refine⟨(i,mid),⟨hi1,by omega,hlo,fun m y h1 h3 h4=>of_decide_eq_false hc (hmono mid m x y h1 hx h3 h4)⟩,by simp only;omega,?_⟩
   refine wk_i ?_ ?_<;>simp only[zw,seval,reduceIte,reduceCtorEq]
 ·obtain rfl:i=j:=by omega
  have hidx:YJ cf l=i:=WW hj hlo hhi
  have h2:=lt_f hge
  rcases Nat.lt_or_ge i l.length with h3|h3
  ·obtain⟨x,hx⟩:=QH h3
   have hhit:Jz cf l=decide (cf x=0):=by rw[Jz,hidx,hx]
   rw[hidx,hhit]
   have h4:=lt_t h3
   repeat'(first|(simp -implicitDefEqProofs only[*,List.getElem?_map,Option.map_some,fPt,zr,seval,reduceIte,reduceCtorEq])|(apply zk<;>intro hc)|(refine zp ?_)|(refine zd ?_)|(refine cP (hcmp x (List.mem_of_getElem? hx)) ?_)|(refine cD (hcmp x (List.mem_of_getElem? hx)) ?_)|(refine cF (hcmp x (List.mem_of_getElem? hx)) ?_)|fail)
   exact NI
  ·have hhit:Jz cf l=false:=by rw[Jz,hidx,List.getElem?_eq_none h3]
   rw[hidx,hhit]
   have h4:=lt_f h3
   repeat'(first|(simp -implicitDefEqProofs only[*,zr,seval,reduceIte,reduceCtorEq])|(apply zk<;>intro hc)|(refine zp ?_)|(refine zd ?_)|fail)
   exact NI

theorem Ks (D:List Ob) (x:AV) (hx:x.pure=true) (t:ByteArray) (hl:D.length≤1000000) (hr:QZ kOb D):FRet Tryz.prog 26 [.agg [.f (XJ D),x],.f (.str t)] [.c (.v (.int .i64 (KX D t))),.c (.v (.bool (hasK kOb D t)))]:=by
 have k:=bs_ob D t 54 (fun b=>cmpB b.1 t) hl (fun x _=>doneAtC_f x t) (UV hr t)
 rw[show Jz (fun b:Ob=>cmpB b.1 t) D=hasK kOb D t from Kw (key:=kOb) hr t]at k
 refine FCall.of_ax NT ?_
 dsimp only[jm,ji,jf,jl,jL,jn,je,jx,jT,jC,jB,jq,jt,ju,jA,km,kf,kl,kn,kx,WD,XJ,KX]
 refine zrs ?_
 repeat'(first|(simp -implicitDefEqProofs only[*,zr,seval,reduceIte,reduceCtorEq])|(apply zk<;>intro hc)|(refine zp ?_)|(refine zd ?_)|(refine cP (k) ?_)|(refine cD (k) ?_)|(refine cF (k) ?_)|fail)
 exact NI
theorem QCi (P:List Pt) (x:AV) (hx:x.pure=true) (t:ByteArray) (hl:P.length≤1000000) (hr:QZ kPt P):FRet Tryz.prog 77 [.agg [x,.f (Ue P)],.f (.str t)] [.c (.v (.int .i64 (Qc P t))),.c (.v (.bool (hasK kPt P t)))]:=by
 have k:=bs_pt P t 108 (fun b=>cmpB b.1 t) hl (fun x _=>partAtC_f x t) (UV hr t)
 rw[show Jz (fun b:Pt=>cmpB b.1 t) P=hasK kPt P t from Kw (key:=kPt) hr t]at k
 refine FCall.of_ax NS ?_
 dsimp only[jm,ji,jf,jl,jL,jn,je,jx,jT,jC,jB,jq,jt,ju,jA,km,kf,kl,kn,kx,WC,Ue,Qc]
 refine zrs ?_
 repeat'(first|(simp -implicitDefEqProofs only[*,zr,seval,reduceIte,reduceCtorEq])|(apply zk<;>intro hc)|(refine zp ?_)|(refine zd ?_)|(refine cP (k) ?_)|(refine cD (k) ?_)|(refine cF (k) ?_)|fail)
 exact NI
theorem UM (l:List Ob) (hl:(l.length:Int)≤9223372036854775807) (hb:∀ x∈l,(x.2.length:Int)≤9223372036854775807):FRet Tryz.prog 45 [.f (XJ l)] [.c (.v (.int .i64 (KC l)))]:=by
 have hB:=hide hb
 clear hb
 refine FCall.of_ax JK ?_
 dsimp only[jm,ji,jf,jl,jL,jn,je,jx,jT,jC,jB,jq,jt,ju,jA,km,kf,kl,kn,kx,Yi,XJ]
 refine zrs ?_
 repeat'(first|(simp -implicitDefEqProofs only[*,zr,seval,reduceIte,reduceCtorEq])|(apply zk<;>intro hc)|(refine zp ?_)|(refine zd ?_)|fail)
 ·rw[KC,if_pos (of_decide_eq_true hc)]
  exact VO
 rw[KC,if_neg (of_decide_eq_false hc)]
 clear hc
 refine QK (S:=Nat) 42 [0,8,9] [] (fun s=>[(10,.f (.int .i64 s))]) (fun s=>[]) (fun s=>s≤l.length∧∀ m,m<s→QAz l m=0) (fun s=>l.length - s) (0) [] ?_ ?_ fun s hs=> ?_
 ·exact⟨Nat.zero_le _,fe_0⟩
 ·refine wk_i ?_ ?_<;>simp only[zw,seval,reduceIte,reduceCtorEq]
 obtain⟨hi,hall⟩:=hs
 refine zrs ?_
 rcases Nat.lt_or_ge s l.length with hlt|hge
 ·obtain⟨x,hx⟩:=QH hlt
  have h4:=XU hlt hl
  have hE:=QAy hx
  have h2:=lt_t hlt
  have h6:=dec64' hlt hl
  obtain⟨y,hy,hf⟩:=QBu hx
  rw[hf]at hE
  clear hf
  have hD:=Ju x.2 (hB.out x (List.mem_of_getElem? hx))
  obtain⟨xd,xb⟩:=x
  obtain⟨yd,yb⟩:=y
  unfold leS at hE
  simp only at hE hD
  generalize digV xb=dv at hE hD
  replace hD:=hide hD
  by_cases he:xd=dv
  ·subst he
   rw[if_pos rfl]at hE
   have dd:decide (xd=xd)=true:=dcT rfl
   repeat'(first|(simp -implicitDefEqProofs only[*,List.getElem?_map,Option.map_some,fOb,frB,zr,seval,reduceIte,reduceCtorEq])|(apply zk<;>intro hc)|(refine zp ?_)|(refine zd ?_)|(refine cP (hD.out) ?_)|(refine cD (hD.out) ?_)|(refine cF (hD.out) ?_)|fail)
   all_goals try simp only[List.length_map]at*
   all_goals try simp only[decide_eq_true_eq,decide_eq_false_iff_not]at*
   all_goals simp only[*,Int.reduceEq,Int.reduceNe,if_true,if_false,ne_eq,not_true_eq_false,not_false_eq_true,reduceIte,Bool.false_eq_true,Bool.true_and,Bool.and_true,Bool.false_and,Bool.and_false,Bool.not_true,Bool.not_false,Bool.true_or,Bool.or_true,Bool.false_or,Bool.or_false,decide_true,decide_false,reduceCtorEq]at hE
   all_goals first
    | exact Xp (by rw[UL hall hlt (by rw[hE];decide),hE])
    | exact Xp (by rw[UL hall hlt (by rw[hE];assumption),hE])
    |(refine⟨s+1,⟨hlt,QB6 hall hE⟩,by omega,?_⟩;refine wk_i ?_ ?_<;>simp only[zw,seval,reduceIte,reduceCtorEq])
  ·rw[if_neg he]at hE
   have dd:=dcF he
   repeat'(first|(simp -implicitDefEqProofs only[*,List.getElem?_map,Option.map_some,fOb,frB,zr,seval,reduceIte,reduceCtorEq])|(apply zk<;>intro hc)|(refine zp ?_)|(refine zd ?_)|(refine cP (hD.out) ?_)|(refine cD (hD.out) ?_)|(refine cF (hD.out) ?_)|fail)
   exact Xp (by rw[UL hall hlt (by rw[hE];decide),hE])
 ·obtain rfl:s=l.length:=by omega
  rw[QAC hall]
  simp -implicitDefEqProofs only[lt_f hge,zr,Nat.reduceAdd,Nat.reduceSub,Nat.reduceMul,Nat.reduceLT,Nat.reduceLeDiff,Nat.reduceEqDiff,Nat.reduceBEq,reduceIte,reduceCtorEq,Int.reduceLE,Int.reduceLT,Int.reduceToNat,Int.reduceEq,Int.reduceNe]
  exact VO
theorem MO (m:Mg) (many:Int):FRet Tryz.prog 76 [aMg m,.f (.int .i64 many)] [.c (.v (.int .i64 (ckMg m many)))]:=by
 have hD:=Xy m.2.1
 obtain⟨mk,md,mf,ms,mb⟩:=m
 unfold ckMg
 dsimp only at hD ⊢
 generalize XZ md=dg at*
 replace hD:=hide hD
 refine FCall.of_ax JF ?_
 dsimp only[jm,ji,jf,jl,jL,jn,je,jx,jT,jC,jB,jq,jt,ju,jA,km,kf,kl,kn,kx,Ye,aMg,fMg,List.map]
 refine zrs ?_
 repeat'(first|(simp -implicitDefEqProofs only[*,zr,seval,reduceIte,reduceCtorEq])|(apply zk<;>intro hc)|(refine zp ?_)|(refine zd ?_)|(refine cP (hD.out) ?_)|(refine cD (hD.out) ?_)|(refine cF (hD.out) ?_)|(refine cP (Yo _ _ _) ?_)|(refine cD (Yo _ _ _) ?_)|(refine cF (Yo _ _ _) ?_)|fail)
 all_goals (refine Xp ?_;simp_all)
theorem MH (r:Rc) (hl:(r.1.length:Int)≤9223372036854775807∧(r.2.length:Int)≤9223372036854775807) (hb:(∀ x∈r.1,(x.2.length:Int)≤9223372036854775807)∧∀ x∈r.2,(x.2.2.length:Int)≤9223372036854775807):FRet Tryz.prog 18 [aRc r] [.c (.v (.int .i64 (ckRc r)))]:=by
 obtain⟨D,P⟩:=r
 obtain⟨hl1,hl2⟩:=hl
 obtain⟨hb1,hb2⟩:=hb
 dsimp only at*
 have k1:=UM D hl1 hb1
 unfold ckRc
 dsimp only
 by_cases h0:KC D=0
 case neg=>
  rw[if_pos h0]
  have d0:decide (KC D=0)=false:=dcF h0
  generalize KC D=q at*
  replace k1:=hide k1
  clear hl1 hb1 hl2 hb2 h0
  refine FCall.of_ax Xq ?_
  dsimp only[jm,ji,jf,jl,jL,jn,je,jx,jT,jC,jB,jq,jt,ju,jA,km,kf,kl,kn,kx,XI,aRc]
  refine zrs ?_
  repeat'(first|(simp -implicitDefEqProofs only[*,zr,seval,reduceIte,reduceCtorEq])|(apply zk<;>intro hc)|(refine zp ?_)|(refine zd ?_)|(refine cP (k1.out) ?_)|(refine cD (k1.out) ?_)|(refine cF (k1.out) ?_)|fail)
  exact VO
 rw[if_neg (fun h=>h h0)]
 rw[h0]at k1
 have hlen:D.length≤4000:=by
  unfold KC at h0
  split at h0
  ·cases h0
  ·omega
 have hrise:QZ kOb D:=(WT.1 h0).rise
 have hB:=hide hb2
 have kD:=fun t=>Ks D (.f (Ue P)) rfl t (by omega) hrise
 replace kD:=hide kD
 replace k1:=hide k1
 clear hl1 hb1 hb2 h0 hrise hlen
 have dz:decide ((0:Int)=0)=true:=rfl
 refine FCall.of_ax Xq ?_
 dsimp only[jm,ji,jf,jl,jL,jn,je,jx,jT,jC,jB,jq,jt,ju,jA,km,kf,kl,kn,kx,XI,aRc]
 refine zrs ?_
 repeat'(first|(simp -implicitDefEqProofs only[*,Ue,List.length_map,zr,seval,reduceIte,reduceCtorEq])|(apply zk<;>intro hc)|(refine zp ?_)|(refine zd ?_)|(refine cP (k1.out) ?_)|(refine cD (k1.out) ?_)|(refine cF (k1.out) ?_)|fail)
 ·rw[if_pos (of_decide_eq_true hc)]
  exact VO
 rw[if_neg (of_decide_eq_false hc)]
 clear hc
 refine QK (S:=Nat) 63 [1,19,20] [1] (fun s=>[(21,.f (.int .i64 s))]) (fun s=>[]) (fun s=>s≤P.length∧∀ m,m<s→NL D P m=0) (fun s=>P.length - s) (0) [] ?_ ?_ fun s hs=> ?_
 ·exact⟨Nat.zero_le _,fe_0⟩
 ·refine wk_i ?_ ?_<;>simp only[zw,seval,reduceIte,reduceCtorEq]
 obtain⟨hi,hall⟩:=hs
 refine zrs ?_
 rcases Nat.lt_or_ge s P.length with hlt|hge
 ·obtain⟨x,hx⟩:=QH hlt
  have h4:=XU hlt hl2
  have hE:=MY (D:=D) hx
  have h2:=lt_t hlt
  have h6:=dec64' hlt hl2
  obtain⟨y,hy,hf⟩:=QBu hx
  rw[hf]at hE
  clear hf
  have hk:=kD.out x.1
  have hdg:=Xy x.1
  obtain⟨xd,xs,xb⟩:=x
  obtain⟨yd,ys,yb⟩:=y
  unfold leS at hE
  simp only at hE hk hdg
  generalize hasK kOb D xd=hv at hE hk
  generalize XZ xd=dg at hE hdg
  replace hk:=hide hk
  replace hdg:=hide hdg
  repeat'(first|(simp -implicitDefEqProofs only[*,List.getElem?_map,Option.map_some,fPt,frB,zr,seval,reduceIte,reduceCtorEq])|(apply zk<;>intro hc)|(refine zp ?_)|(refine zd ?_)|(refine cP (hdg.out) ?_)|(refine cD (hdg.out) ?_)|(refine cF (hdg.out) ?_)|(refine cP (Yo _ _ _) ?_)|(refine cD (Yo _ _ _) ?_)|(refine cF (Yo _ _ _) ?_)|(refine cP (hk.out) ?_)|(refine cD (hk.out) ?_)|(refine cF (hk.out) ?_)|fail)
  all_goals try simp only[List.length_map]at*
  all_goals try simp only[decide_eq_true_eq,decide_eq_false_iff_not]at*
  all_goals simp only[*,Int.reduceEq,Int.reduceNe,if_true,if_false,ne_eq,not_true_eq_false,not_false_eq_true,reduceIte,Bool.false_eq_true,Bool.true_and,Bool.and_true,Bool.false_and,Bool.and_false,Bool.not_true,Bool.not_false,Bool.true_or,Bool.or_true,Bool.false_or,Bool.or_false,decide_true,decide_false,reduceCtorEq]at hE
  all_goals first
   | exact Xp (by rw[UL hall hlt (by rw[hE];decide),hE])
   | exact Xp (by rw[UL hall hlt (by rw[hE];assumption),hE])
   |(refine⟨s+1,⟨hlt,QB6 hall hE⟩,by omega,?_⟩;refine wk_i ?_ ?_<;>simp only[zw,seval,reduceIte,reduceCtorEq])
 ·obtain rfl:s=P.length:=by omega
  rw[QAC hall]
  simp -implicitDefEqProofs only[lt_f hge,zr,Nat.reduceAdd,Nat.reduceSub,Nat.reduceMul,Nat.reduceLT,Nat.reduceLeDiff,Nat.reduceEqDiff,Nat.reduceBEq,reduceIte,reduceCtorEq,Int.reduceLE,Int.reduceLT,Int.reduceToNat,Int.reduceEq,Int.reduceNe]
  exact VO
end Go.Proofs.YtjfchihkhpinmaaGreatDoor
