/-
  The plain law of WireDeliversArrive. No statement of the seat is proved here; no conditions.
-/
import Derived.Test.YtjfchihkhpinmaaGreatDoorDv3
import Derived.Test.YtjfchihkhpinmaaGreatDoorTtA
import Derived.Test.YtjfchihkhpinmaaGreatDoorTtP
namespace Go.Proofs.YtjfchihkhpinmaaGreatDoor
open Go.RowKit Go.Shelf
set_option linter.unusedVariables false
set_option linter.unusedSimpArgs false

def Has (t:ByteArray) (b:List UInt8) (r:Rc) (f:Nat):Prop:=r=([],[])∧f=0∨r=([],[(t,(b.length:Int),b.take f)])∧f<b.length
theorem rise_nil {α : Type}{key : α→ByteArray} : QZ key ([]:List α):=fun i j x y _ hx=>by simp at hx
theorem QCd {α : Type}{key : α→ByteArray}{a : α} : QZ key [a]:=fun i j x y hij hx hy=>by
 have h1:=(List.getElem?_eq_some_iff.1 hx).1
 have h2:=(List.getElem?_eq_some_iff.1 hy).1
 simp only[List.length_cons,List.length_nil]at h1 h2
 omega
theorem OT {t:ByteArray}{s:Int}{c:List UInt8} : pGet [(t,s,c)] t=some (t,s,c):=pGet_of QCd (List.mem_singleton.2 rfl)
theorem QDn {t:ByteArray}{L:Nat}(hd:XZ t=true) (hL:L≤100000):ckMg (1,t,0,(L:Int),[]) 0=0:=by
 unfold ckMg
 dsimp only
 rw[if_neg (by decide),if_neg (by rw[hd];decide),if_neg (by simp only[inRg,Bool.not_eq_false,Bool.and_eq_true,decide_eq_true_eq];omega),if_neg (by decide),if_neg (by simp),if_neg (by simp),if_neg (by simp)]
structure Ses (t:ByteArray) (b:List UInt8) (most:Nat) (f:Nat) (s:Int) (R:(Bool × Int) × Rc × Int):Prop where
 ok:R.1.2=0
 at_:R.1.1=true∧R.2.1=([(t,b)],[])∧R.2.2=s+((b.length - f:Nat):Int)∨R.1.1=false∧∃ g:Nat,Has t b R.2.1 g∧f≤g∧g≤b.length∧s+((g - f:Nat):Int)≤R.2.2∧R.2.2≤s+((g - f:Nat):Int)+most
end Go.Proofs.YtjfchihkhpinmaaGreatDoor
namespace Go.Proofs.YtjfchihkhpinmaaGreatDoor
open Go.RowKit Go.Shelf
set_option linter.unusedVariables false
set_option linter.unusedSimpArgs false
set_option maxRecDepth 100000

def Yj (c:Int):Bool:=(decide (97≤c)&&decide (c≤122))||((decide (65≤c)&&decide (c≤90))||((decide (48≤c)&&decide (c≤57))||decide (0≤ixB ⟨#[46,95,45,43]⟩ c.toNat.toUInt8)))
theorem inPart_f (c:Int):FRet Tryz.prog 91 [.f (.int .u8 c)] [.c (.v (.bool (Yj c)))]:=by
 have k:=QB2 ⟨#[46,95,45,43]⟩ c
 unfold Yj
 generalize ixB ⟨#[46,95,45,43]⟩ c.toNat.toUInt8=n at*
 replace k:=hide k
 refine FCall.of_ax NY ?_
 dsimp only[jm,ji,jf,jl,jL,jn,je,jx,jT,jC,jB,jq,jt,ju,jA,km,kf,kl,kn,kx,WI]
 refine zrs ?_
 repeat'(first|(simp -implicitDefEqProofs only[*,zr,seval,reduceIte,reduceCtorEq])|(apply zk<;>intro hc)|(refine zp ?_)|(refine zd ?_)|(refine cP (k.out) ?_)|(refine cD (k.out) ?_)|(refine cF (k.out) ?_)|fail)
 all_goals exact Xp (by simp_all)
def Xj (s:ByteArray):Bool:=s.data.toList.all (fun b=>Yj b.toNat)&&(!decide (s=⟨#[]⟩)&&(!decide (s=⟨#[46]⟩)&& !decide (s=⟨#[46,46]⟩)))
theorem QCr (p:ByteArray) (hp:(p.size:Int)≤9223372036854775806):FRet Tryz.prog 59 [.f (.str p)] [.c (.v (.bool (Xj p)))]:=by
 have hlen:p.data.toList.length=p.size:=by simp
 refine FCall.of_ax NX ?_
 dsimp only[jm,ji,jf,jl,jL,jn,je,jx,jT,jC,jB,jq,jt,ju,jA,km,kf,kl,kn,kx,WH]
 refine zrs ?_
 repeat'(first|(simp -implicitDefEqProofs only[*,zr,seval,reduceIte,reduceCtorEq])|(apply zk<;>intro hc)|(refine zp ?_)|(refine zd ?_)|fail)
 refine QK (S:=Nat) 25 [0,5] [] (fun s=>[(6,.f (.int .i64 s))]) (fun s=>[]) (fun s=>s≤p.size∧∀ (m:Nat) (b:UInt8),m<s→p.data.toList[m]? = some b→Yj b.toNat=true) (fun s=>p.size - s) (0) [] ?_ ?_ fun s hs=> ?_
 ·exact⟨Nat.zero_le _,fun m b h=>absurd h (Nat.not_lt_zero _)⟩
 ·refine wk_i ?_ ?_<;>simp only[zw,seval,reduceIte,reduceCtorEq]
 obtain⟨hs,hinv⟩:=hs
 rcases Nat.lt_or_ge s p.size with hlt|hge
 ·obtain⟨b,hx⟩:=QH (l:=p.data.toList) (i:=s) (by omega)
  have h4:=XU hlt (by omega)
  have h2:=lt_t hlt
  have k:=inPart_f (b.toNat:Int)
  cases hb:Yj b.toNat with
  | false=>
   rw[hb]at k
   have hV:Xj p=false:=by
    unfold Xj
    rw[show p.data.toList.all (fun b=>Yj b.toNat)=false from List.all_eq_false.2 ⟨b,List.mem_of_getElem? hx,by rw[hb];decide⟩,Bool.false_and]
   rw[hV]
   clear hinv hV hb
   refine zrs ?_
   repeat'(first|(simp -implicitDefEqProofs only[*,zr,seval,reduceIte,reduceCtorEq])|(apply zk<;>intro hc)|(refine zp ?_)|(refine zd ?_)|(refine cP (k) ?_)|(refine cD (k) ?_)|(refine cF (k) ?_)|fail)
   exact VO
  | true=>
   rw[hb]at k
   have hinv2:∀ (m:Nat) (c:UInt8),m<s+1→p.data.toList[m]? = some c→Yj c.toNat=true:=fun m c hm hc=>by
    rcases Nat.lt_succ_iff_lt_or_eq.1 hm with h|rfl
    ·exact hinv m c h hc
    ·rw[hx]at hc;obtain rfl:=Option.some.inj hc;exact hb
   clear hinv hb
   replace hinv2:=hide hinv2
   refine zrs ?_
   repeat'(first|(simp -implicitDefEqProofs only[*,zr,seval,reduceIte,reduceCtorEq])|(apply zk<;>intro hc)|(refine zp ?_)|(refine zd ?_)|(refine cP (k) ?_)|(refine cD (k) ?_)|(refine cF (k) ?_)|fail)
   refine⟨s+1,⟨hlt,hinv2.out⟩,by omega,?_⟩
   refine wk_i ?_ ?_<;>simp only[zw,seval,reduceIte,reduceCtorEq]
 ·obtain rfl:s=p.size:=by omega
  have h2:=lt_f hge
  have hV:Xj p=(!decide (p=⟨#[]⟩)&&(!decide (p=⟨#[46]⟩)&& !decide (p=⟨#[46,46]⟩))):=by
   unfold Xj
   rw[List.all_eq_true.2 fun b hb=>by
    obtain⟨m,hm⟩:=List.mem_iff_getElem?.1 hb
    exact hinv m b (by have:=(List.getElem?_eq_some_iff.1 hm).1;omega) hm,Bool.true_and]
  rw[hV]
  clear hinv hV
  refine zrs ?_
  repeat'(first|(simp -implicitDefEqProofs only[*,zr,seval,reduceIte,reduceCtorEq])|(apply zk<;>intro hc)|(refine zp ?_)|(refine zd ?_)|fail)
  all_goals exact Xp (by simp_all)
def Vw (p:ByteArray):Bool:=decide (1≤p.size)&&(decide (p.size≤200)&&(Xo p 47).all Xj)
theorem splitS_sz (p:ByteArray) (c:UInt8) (hp:p.size≤4294967280):(Xo p c).length≤4294967281:=by
 have:=Lib.countB_le (sep c) (by show 1≤1;decide) p.size p (Nat.le_refl _)
 rw[MT];omega
theorem IsPath_f (p:ByteArray) (hp:(p.size:Int)≤9223372036854775806) (hw:p.size≤200→∀ w∈Xo p 47,w.size≤200):FRet Tryz.prog 32 [.f (.str p)] [.c (.v (.bool (Vw p)))]:=by
 by_cases h1:1≤p.size
 case neg=>
  have e:Vw p=false:=by unfold Vw;rw[decide_eq_false h1,Bool.false_and]
  have d1:decide ((p.size:Int)<1)=true:=dcT (by omega)
  rw[e]
  refine FCall.of_ax Yd ?_
  dsimp only[jm,ji,jf,jl,jL,jn,je,jx,jT,jC,jB,jq,jt,ju,jA,km,kf,kl,kn,kx,YV]
  replace h1:=hide h1
  refine zrs ?_
  repeat'(first|(simp -implicitDefEqProofs only[*,zr,seval,reduceIte,reduceCtorEq])|(apply zk<;>intro hc)|(refine zp ?_)|(refine zd ?_)|fail)
  exact VO
 by_cases h2:p.size≤200
 case neg=>
  have e:Vw p=false:=by unfold Vw;rw[decide_eq_false h2,Bool.false_and,Bool.and_false]
  have d1:decide ((p.size:Int)<1)=false:=dcF (by omega)
  have d2:decide ((p.size:Int) > 200)=true:=dcT (by omega)
  have d3:decide ((200:Int)<(p.size:Int))=true:=dcT (by omega)
  rw[e]
  refine FCall.of_ax Yd ?_
  dsimp only[jm,ji,jf,jl,jL,jn,je,jx,jT,jC,jB,jq,jt,ju,jA,km,kf,kl,kn,kx,YV]
  replace h1:=hide h1
  replace h2:=hide h2
  refine zrs ?_
  repeat'(first|(simp -implicitDefEqProofs only[*,zr,seval,reduceIte,reduceCtorEq])|(apply zk<;>intro hc)|(refine zp ?_)|(refine zd ?_)|fail)
  exact VO
 have e:Vw p=(Xo p 47).all Xj:=by unfold Vw;rw[decide_eq_true h1,decide_eq_true h2,Bool.true_and,Bool.true_and]
 have d1:decide ((p.size:Int)<1)=false:=dcF (by omega)
 have d2:decide ((p.size:Int) > 200)=false:=dcF (by omega)
 have d3:decide ((200:Int)<(p.size:Int))=false:=dcF (by omega)
 have kS:=split_f p 47 (by omega)
 have hsz:=splitS_sz p 47 (by omega)
 have hwz:=hw h2
 rw[e]
 change FRet _ _ [_,.f (.str ⟨#[47]⟩)] _ at kS
 generalize Xo p 47=L at*
 replace h1:=hide h1
 replace h2:=hide h2
 replace hsz:=hide hsz
 replace hwz:=hide hwz
 clear e hw
 refine FCall.of_ax Yd ?_
 dsimp only[jm,ji,jf,jl,jL,jn,je,jx,jT,jC,jB,jq,jt,ju,jA,km,kf,kl,kn,kx,YV,KN]at kS ⊢
 refine zrs ?_
 repeat'(first|(simp -implicitDefEqProofs only[*,zr,seval,reduceIte,reduceCtorEq])|(apply zk<;>intro hc)|(refine zp ?_)|(refine zd ?_)|(refine cP (kS) ?_)|(refine cD (kS) ?_)|(refine cF (kS) ?_)|fail)
 refine QK (S:=Nat) 24 [14,15] [] (fun s=>[(16,.f (.int .i64 s))]) (fun s=>[]) (fun s=>s≤L.length∧∀ (m:Nat) (w:ByteArray),m<s→L[m]? = some w→Xj w=true) (fun s=>L.length - s) (0) [] ?_ ?_ fun s hs=> ?_
 ·exact⟨Nat.zero_le _,fun m b h=>absurd h (Nat.not_lt_zero _)⟩
 ·refine wk_i ?_ ?_<;>simp only[zw,seval,reduceIte,reduceCtorEq]
 obtain⟨hs,hinv⟩:=hs
 rcases Nat.lt_or_ge s L.length with hlt|hge
 ·obtain⟨w,hx⟩:=QH hlt
  have h4:=XU hlt (by have:=hsz.out;omega)
  have h5:=lt_t hlt
  have k:=QCr w (by have:=hwz.out w (List.mem_of_getElem? hx);omega)
  cases hb:Xj w with
  | false=>
   rw[hb]at k
   rw[show L.all Xj=false from List.all_eq_false.2 ⟨w,List.mem_of_getElem? hx,by rw[hb];decide⟩]
   clear hinv hb
   refine zrs ?_
   repeat'(first|(simp -implicitDefEqProofs only[*,List.getElem?_map,Option.map_some,zr,seval,reduceIte,reduceCtorEq])|(apply zk<;>intro hc)|(refine zp ?_)|(refine zd ?_)|(refine cP (k) ?_)|(refine cD (k) ?_)|(refine cF (k) ?_)|fail)
   exact VO
  | true=>
   rw[hb]at k
   have hinv2:∀ (m:Nat) (c:ByteArray),m<s+1→L[m]? = some c→Xj c=true:=fun m c hm hc=>by
    rcases Nat.lt_succ_iff_lt_or_eq.1 hm with h|rfl
    ·exact hinv m c h hc
    ·rw[hx]at hc;obtain rfl:=Option.some.inj hc;exact hb
   clear hinv hb
   replace hinv2:=hide hinv2
   refine zrs ?_
   repeat'(first|(simp -implicitDefEqProofs only[*,List.getElem?_map,Option.map_some,zr,seval,reduceIte,reduceCtorEq])|(apply zk<;>intro hc)|(refine zp ?_)|(refine zd ?_)|(refine cP (k) ?_)|(refine cD (k) ?_)|(refine cF (k) ?_)|fail)
   refine⟨s+1,⟨hlt,hinv2.out⟩,by omega,?_⟩
   refine wk_i ?_ ?_<;>simp only[zw,seval,reduceIte,reduceCtorEq]
 ·obtain rfl:s=L.length:=by omega
  have h5:=lt_f hge
  rw[List.all_eq_true.2 fun w hw=>by
   obtain⟨m,hm⟩:=List.mem_iff_getElem?.1 hw
   exact hinv m w (List.getElem?_eq_some_iff.1 hm).1 hm]
  clear hinv
  refine zrs ?_
  repeat'(first|(simp -implicitDefEqProofs only[*,zr,seval,reduceIte,reduceCtorEq])|(apply zk<;>intro hc)|(refine zp ?_)|(refine zd ?_)|fail)
  exact VO
def Nz (L:List ByteArray) (p:ByteArray):Bool:=(List.range p.size).any fun i=>decide (p.data.toList[i]? = some 47)&&hasS (p.extract 0 i) L
theorem clashes_f (L:List ByteArray) (p:ByteArray) (hp:(p.size:Int)≤9223372036854775806):FRet Tryz.prog 33 [.f (.fm (setL L)),.f (.str p)] [.c (.v (.bool (Nz L p)))]:=by
 have hlen:p.data.toList.length=p.size:=by simp
 refine FCall.of_ax Kb ?_
 dsimp only[jm,ji,jf,jl,jL,jn,je,jx,jT,jC,jB,jq,jt,ju,jA,km,kf,kl,kn,kx,UI]
 refine zrs ?_
 repeat'(first|(simp -implicitDefEqProofs only[*,zr,seval,reduceIte,reduceCtorEq])|(apply zk<;>intro hc)|(refine zp ?_)|(refine zd ?_)|fail)
 refine QK (S:=Nat) 23 [0,1,7] [] (fun s=>[(8,.f (.int .i64 s))]) (fun s=>[]) (fun s=>s≤p.size∧∀ m,m<s→(decide (p.data.toList[m]? = some 47)&&hasS (p.extract 0 m) L)=false) (fun s=>p.size - s) (0) [] ?_ ?_ fun s hs=> ?_
 ·exact⟨Nat.zero_le _,fun m h=>absurd h (Nat.not_lt_zero _)⟩
 ·refine wk_i ?_ ?_<;>simp only[zw,seval,reduceIte,reduceCtorEq]
 obtain⟨hs,hinv⟩:=hs
 rcases Nat.lt_or_ge s p.size with hlt|hge
 ·obtain⟨b,hx⟩:=QH (l:=p.data.toList) (i:=s) (by omega)
  have h4:=XU hlt (by omega)
  have h2:=lt_t hlt
  have h6:=le_tt (show(s:Int)≤p.size by omega)
  have hstep:∀ {v:Bool},(decide (p.data.toList[s]? = some 47)&&hasS (p.extract 0 s) L)=v→v=false→∀ m,m<s+1→(decide (p.data.toList[m]? = some 47)&&hasS (p.extract 0 m) L)=false:=fun hv h0 m hm=>by
   rcases Nat.lt_succ_iff_lt_or_eq.1 hm with h|rfl
   ·exact hinv m h
   ·rw[hv,h0]
  by_cases hb:b=47
  ·subst hb
   have db:decide (((47:UInt8).toNat:Int)=47)=true:=by decide
   cases hg:hasS (p.extract 0 s) L with
   | true=>
    have hV:Nz L p=true:=List.any_eq_true.2 ⟨s,List.mem_range.2 hlt,by rw[hx,hg];decide⟩
    have hG:=mGet_t hg
    rw[hV]
    clear hinv hV hstep
    refine zrs ?_
    repeat'(first|(simp -implicitDefEqProofs only[*,Int.le_refl,zr,seval,reduceIte,reduceCtorEq])|(apply zk<;>intro hc)|(refine zp ?_)|(refine zd ?_)|fail)
    exact VO
   | false=>
    have hG:=mGet_f hg
    have hS:=hide (hstep rfl (by rw[hg,Bool.and_false]))
    clear hinv hstep
    refine zrs ?_
    repeat'(first|(simp -implicitDefEqProofs only[*,Int.le_refl,zr,seval,reduceIte,reduceCtorEq])|(apply zk<;>intro hc)|(refine zp ?_)|(refine zd ?_)|fail)
    refine⟨s+1,⟨hlt,hS.out⟩,by omega,?_⟩
    refine wk_i ?_ ?_<;>simp only[zw,seval,reduceIte,reduceCtorEq]
  ·have db:decide ((b.toNat:Int)=47)=false:=dcF fun h=>hb (UInt8.toNat_inj.1 (by rw[show(47:UInt8).toNat=47 from rfl];omega))
   have hS:=hide (hstep rfl (by rw[hx,decide_eq_false (fun h=>hb (Option.some.inj h)),Bool.false_and]))
   clear hinv hstep
   replace hb:=hide hb
   refine zrs ?_
   repeat'(first|(simp -implicitDefEqProofs only[*,Int.le_refl,zr,seval,reduceIte,reduceCtorEq])|(apply zk<;>intro hc)|(refine zp ?_)|(refine zd ?_)|fail)
   refine⟨s+1,⟨hlt,hS.out⟩,by omega,?_⟩
   refine wk_i ?_ ?_<;>simp only[zw,seval,reduceIte,reduceCtorEq]
 ·obtain rfl:s=p.size:=by omega
  have h2:=lt_f hge
  have hV:Nz L p=false:=List.any_eq_false.2 fun i hi=>by rw[hinv i (List.mem_range.1 hi)];decide
  rw[hV]
  clear hinv hV
  refine zrs ?_
  repeat'(first|(simp -implicitDefEqProofs only[*,zr,seval,reduceIte,reduceCtorEq])|(apply zk<;>intro hc)|(refine zp ?_)|(refine zd ?_)|fail)
  exact VO
end Go.Proofs.YtjfchihkhpinmaaGreatDoor
