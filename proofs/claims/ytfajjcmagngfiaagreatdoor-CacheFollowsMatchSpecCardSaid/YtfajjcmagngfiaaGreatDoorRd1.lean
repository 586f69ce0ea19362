/-
  The reference's lease, fields, checkEvent. No statement of the seat is proved here; no conditions.
-/
import Derived.Test.YtfajjcmagngfiaaGreatDoorRfD
import Derived.Test.YtfajjcmagngfiaaGreatDoorEvt
import Derived.Test.YtfajjcmagngfiaaGreatDoorPin
import Derived.Test.YtfajjcmagngfiaaGreatDoorLowR
namespace Go.Proofs.YtfajjcmagngfiaaGreatDoor
open Go.RowKit Go.Shelf
set_option linter.unusedVariables false
set_option linter.unusedSimpArgs false
set_option maxRecDepth 100000

theorem rising_at {α : Type}{key : α→ByteArray}{l:List α}(hr:Rising key l){i j:Nat}{x y : α}(hx:l[i]? = some x) (hy:l[j]? = some y) (h:key x=key y):i=j:=by
 rcases Nat.lt_trichotomy i j with h1|h1|h1
 ·have:=hr i j x y h1 hx hy;rw[h,strLt_irrefl]at this;cases this
 ·exact h1
 ·have:=hr j i y x h1 hy hx;rw[h,strLt_irrefl]at this;cases this
theorem firstB {bl:List Blob}{d:ByteArray}(hr:Rising (fun b:Blob=>b.1) bl) (h:hasB bl d=true):firstK (fun b:Blob=>b.1) bl d=(bIdx bl d:Nat):=by
 obtain⟨i,x,h1,h2,h3⟩:=firstK_has (key:=fun b:Blob=>b.1) h
 obtain⟨y,h4,h5⟩:=hasB_at hr h
 rw[h1,rising_at hr h2 h4 (h3.trans h5.symm)]
theorem end_0 {H:Heap}{i1 v1 i2 v2 n m:Nat}{room lease:Int}{xs ys:List FV}{X:Nat × Option AObj}(hp:X=(1,some (.cells [.f (.int .i64 room),.f (.int .i64 lease),.sl i1 v1 5 0 n,.sl i2 v2 3 0 m]))) (h1:cellsOf v1 (H i1)=some (xs.map .f)) (h2:cellsOf v2 (H i2)=some (ys.map .f)) (l1:n*5≤xs.length) (l2:m*3≤ys.length) (hne:i1≠i2:=by decide) (hn1:100001≠i1:=by decide) (hn2:100001≠i2:=by decide) :
  ∃ l cs',AV.tup []=oneOrTup l∧X=(1,some (.cells cs'))∧RcsOk H [.v (.int .i64 room),.v (.int .i64 lease),.own 5 n xs,.own 3 m ys] cs'∧RsOk H [] l∧(idsC cs'++idsS l).Nodup∧¬100001∈idsC cs'++idsS l:=
 end_st hp h1 h2 l1 l2 hne hn1 hn2 (l:=[]) rfl rfl rfl
theorem leaseR_f (room lease:Int) (bl:List Blob) (en:List Entry) (i:Nat) (y:Blob) (at_:Int) (hb:bl.length≤1000000) (hy:bl[i]? = some y) :
  FRetP Tryz.prog 73 [.v (.int .i64 room),.v (.int .i64 lease),.own 5 bl.length (rowF fBlob bl),.own 3 en.length (rowF fEntry en)] [] [.f (.int .i64 i),.f (.int .i64 at_)]
   [.v (.int .i64 room),.v (.int .i64 lease),.own 5 bl.length (rowF fBlob (bl.set i (tchB lease at_ false true y))),.own 3 en.length (rowF fEntry en)] []:=by
 have hlt2:=(List.getElem?_eq_some_iff.1 hy).1
 have hL:=lt_t hlt2
 have q0:(rowF fBlob bl).length=bl.length*5:=row_len (sz:=5) (fun _=>rfl)
 have p3:(i*5+3+1≤bl.length*5)=True:=by rw[eq_iff_iff,iff_true];omega
 have c3:=row_cell (enc:=fBlob) (sz:=5) (j:=3) (fun _=>rfl) hy rfl
 have e1:=row_set1 (enc:=fBlob) (sz:=5) (j:=3) (y:=tchB lease at_ false true y) (v:= .int .i64 (max y.2.2.2.1 (IntKind.i64.wrap (at_+lease)))) (fun _=>rfl) hy (by omega) rfl
 rw[splice_1]at e1
 refine FCall.of_ax low_ref7_lease ?_
 dsimp only[jm,ji,jf,jl,jL,jn,je,jx,jT,jC,jB,jq,jt,ju,jA,km,kf,kl,kn,kx,l_ref7_lease]
 refine zs ?_
 repeat'(first|(simp -implicitDefEqProofs only[*,addFp_wr,zr,seval,reduceIte,reduceCtorEq])|(apply zk<;>intro hc)|(refine zp ?_)|(refine zd ?_)|fail)
 exact end_0 rfl rfl rfl (lenB List.length_set) (lenE rfl)
theorem fieldsR_f (kind at_:Int) (dg:ByteArray) (ds:List ByteArray) (key:ByteArray) (size:Int):FRet Tryz.prog 71 [aEv (kind,at_,dg,ds,key,size)]
  [.c (.v (.bool (!((!(flds kind).1&& !decide (dg=⟨#[]⟩))||(!(flds kind).2.1&&decide ((0:Int)<(ds.length:Int)))||(!(flds kind).2.2.1&& !decide (key=⟨#[]⟩))||(!(flds kind).2.2.2&& !decide (size=0))))))]:=by
 have dn:decide ((ds.length:Int)=0) = !decide ((0:Int)<(ds.length:Int)):=by
  cases h:decide ((0:Int)<(ds.length:Int))
  ·exact dcT (by have:=of_decide_eq_false h;omega)
  ·exact dcF (by have:=of_decide_eq_true h;omega)
 refine FCall.of_ax low_ref7_fields ?_
 dsimp only[jm,ji,jf,jl,jL,jn,je,jx,jT,jC,jB,jq,jt,ju,jA,km,kf,kl,kn,kx,l_ref7_fields,aEv,frStrs]
 by_cases h1:kind=1
 ·have d1:decide (kind=1)=true:=dcT h1
  have e:flds kind=(true,false,false,true):=by rw[flds,if_pos h1]
  rw[e]
  clear e
  replace h1:=hide h1
  refine zs ?_
  repeat'(first|(simp -implicitDefEqProofs only[*,List.length_map,zr,seval,reduceIte,reduceCtorEq])|(apply zk<;>intro hc)|(refine zp ?_)|(refine zd ?_)|fail)
  all_goals (refine ret_ve ?_;first|(simp only[*,Int.reduceEq,Int.reduceNe,if_true,if_false,ne_eq,not_true_eq_false,not_false_eq_true,reduceIte,Bool.false_eq_true,Bool.true_and,Bool.and_true,Bool.false_and,Bool.and_false,Bool.not_true,Bool.not_false,Bool.true_or,Bool.or_true,Bool.false_or,Bool.or_false,decide_true,decide_false,reduceCtorEq];done)|simp [*])
 have d1:decide (kind=1)=false:=dcF h1
 by_cases h3:kind=3
 ·have d3:decide (kind=3)=true:=dcT h3
  have e:flds kind=(false,true,false,false):=by rw[flds,if_neg h1,if_pos h3]
  rw[e]
  clear e
  replace h1:=hide h1
  replace h3:=hide h3
  refine zs ?_
  repeat'(first|(simp -implicitDefEqProofs only[*,List.length_map,zr,seval,reduceIte,reduceCtorEq])|(apply zk<;>intro hc)|(refine zp ?_)|(refine zd ?_)|fail)
  all_goals (refine ret_ve ?_;first|(simp only[*,Int.reduceEq,Int.reduceNe,if_true,if_false,ne_eq,not_true_eq_false,not_false_eq_true,reduceIte,Bool.false_eq_true,Bool.true_and,Bool.and_true,Bool.false_and,Bool.and_false,Bool.not_true,Bool.not_false,Bool.true_or,Bool.or_true,Bool.false_or,Bool.or_false,decide_true,decide_false,reduceCtorEq];done)|simp [*])
 have d3:decide (kind=3)=false:=dcF h3
 by_cases h6:kind=6
 ·have d6:decide (kind=6)=true:=dcT h6
  have e:flds kind=(false,true,true,false):=by rw[flds,if_neg h1,if_neg h3,if_pos h6]
  rw[e]
  clear e
  replace h1:=hide h1
  replace h3:=hide h3
  replace h6:=hide h6
  refine zs ?_
  repeat'(first|(simp -implicitDefEqProofs only[*,List.length_map,zr,seval,reduceIte,reduceCtorEq])|(apply zk<;>intro hc)|(refine zp ?_)|(refine zd ?_)|fail)
  all_goals (refine ret_ve ?_;first|(simp only[*,Int.reduceEq,Int.reduceNe,if_true,if_false,ne_eq,not_true_eq_false,not_false_eq_true,reduceIte,Bool.false_eq_true,Bool.true_and,Bool.and_true,Bool.false_and,Bool.and_false,Bool.not_true,Bool.not_false,Bool.true_or,Bool.or_true,Bool.false_or,Bool.or_false,decide_true,decide_false,reduceCtorEq];done)|simp [*])
 have d6:decide (kind=6)=false:=dcF h6
 by_cases h7:kind=7
 ·have d7:decide (kind=7)=true:=dcT h7
  have e:flds kind=(false,false,true,false):=by rw[flds,if_neg h1,if_neg h3,if_neg h6,if_pos h7]
  rw[e]
  clear e
  replace h1:=hide h1
  replace h3:=hide h3
  replace h6:=hide h6
  replace h7:=hide h7
  refine zs ?_
  repeat'(first|(simp -implicitDefEqProofs only[*,List.length_map,zr,seval,reduceIte,reduceCtorEq])|(apply zk<;>intro hc)|(refine zp ?_)|(refine zd ?_)|fail)
  all_goals (refine ret_ve ?_;first|(simp only[*,Int.reduceEq,Int.reduceNe,if_true,if_false,ne_eq,not_true_eq_false,not_false_eq_true,reduceIte,Bool.false_eq_true,Bool.true_and,Bool.and_true,Bool.false_and,Bool.and_false,Bool.not_true,Bool.not_false,Bool.true_or,Bool.or_true,Bool.false_or,Bool.or_false,decide_true,decide_false,reduceCtorEq];done)|simp [*])
 have d7:decide (kind=7)=false:=dcF h7
 have e:flds kind=(true,false,false,false):=by rw[flds,if_neg h1,if_neg h3,if_neg h6,if_neg h7]
 rw[e]
 clear e
 replace h1:=hide h1
 replace h3:=hide h3
 replace h6:=hide h6
 replace h7:=hide h7
 refine zs ?_
 repeat'(first|(simp -implicitDefEqProofs only[*,List.length_map,zr,seval,reduceIte,reduceCtorEq])|(apply zk<;>intro hc)|(refine zp ?_)|(refine zd ?_)|fail)
 all_goals (refine ret_ve ?_;first|(simp only[*,Int.reduceEq,Int.reduceNe,if_true,if_false,ne_eq,not_true_eq_false,not_false_eq_true,reduceIte,Bool.false_eq_true,Bool.true_and,Bool.and_true,Bool.false_and,Bool.and_false,Bool.not_true,Bool.not_false,Bool.true_or,Bool.or_true,Bool.false_or,Bool.or_false,decide_true,decide_false,reduceCtorEq];done)|simp [*])
theorem kinds (k:Int):∃ x1 x3 x6 x7:Bool,decide (k=1)=x1∧decide (k=3)=x3∧decide (k=6)=x6∧decide (k=7)=x7∧flds k=(!(x3||x6||x7),x3||x6,x6||x7,x1)∧
  ((x1,x3,x6,x7)=(true,false,false,false)∨(x1,x3,x6,x7)=(false,true,false,false)∨(x1,x3,x6,x7)=(false,false,true,false)∨(x1,x3,x6,x7)=(false,false,false,true)∨(x1,x3,x6,x7)=(false,false,false,false)):=by
 by_cases h1:k=1
 ·subst h1;exact⟨true,false,false,false,rfl,rfl,rfl,rfl,rfl,.inl rfl⟩
 by_cases h3:k=3
 ·subst h3;exact⟨false,true,false,false,rfl,rfl,rfl,rfl,rfl,.inr (.inl rfl)⟩
 by_cases h6:k=6
 ·subst h6;exact⟨false,false,true,false,rfl,rfl,rfl,rfl,rfl,.inr (.inr (.inl rfl))⟩
 by_cases h7:k=7
 ·subst h7;exact⟨false,false,false,true,rfl,rfl,rfl,rfl,rfl,.inr (.inr (.inr (.inl rfl)))⟩
 ·exact⟨false,false,false,false,dcF h1,dcF h3,dcF h6,dcF h7,by rw[flds,if_neg h1,if_neg h3,if_neg h6,if_neg h7];rfl,.inr (.inr (.inr (.inr rfl)))⟩
theorem maxB_leR {bl:List Blob}{m t:Int} : maxB bl m≤t↔m≤t∧∀ b∈bl,b.2.2.1≤t:=by
 induction bl generalizing m with
 | nil=>simp [maxB]
 | cons b l ih=>
  show maxB l (max m b.2.2.1)≤t↔_
  rw[ih,Int.max_le,and_assoc]
  simp only[List.mem_cons,forall_eq_or_imp]
theorem maxE_leR {en:List Entry}{m t:Int} : maxE en m≤t↔m≤t∧∀ b∈en,b.2.2≤t:=by
 induction en generalizing m with
 | nil=>simp [maxE]
 | cons b l ih=>
  show maxE l (max m b.2.2)≤t↔_
  rw[ih,Int.max_le,and_assoc]
  simp only[List.mem_cons,forall_eq_or_imp]
theorem newest_leR {bl:List Blob}{en:List Entry}{t:Int} : newestV bl en≤t↔0≤t∧(∀ b∈bl,b.2.2.1≤t)∧∀ e∈en,e.2.2≤t:=by
 unfold newestV
 rw[maxE_leR,maxB_leR,and_assoc]
def clashV (bl:List Blob) (kind:Int) (dg:ByteArray) (size:Int):Int:=match bl[bIdx bl dg]? with
 | some y=>if hasB bl dg then(if kind=1 then(if y.2.1=size then 0 else 12)else if kind=4 then(if y.2.2.2.2=3000 then 16 else 0)else 0)else 0
 | none=>0
theorem clash_no {bl:List Blob}{kind:Int}{dg:ByteArray}{size:Int}(h:hasB bl dg=false):clashV bl kind dg size=0:=by
 unfold clashV
 split
 ·rw[h];rfl
 ·rfl
def ckR (bl:List Blob) (en:List Entry) (e:Ev):Int:=if ckEv e=0 then(if e.2.1<newestV bl en then 11 else clashV bl e.1 e.2.2.1 e.2.2.2.2.2)else ckEv e
def EvB (e:Ev):Prop:=(e.2.2.2.1.length:Int)≤9223372036854775807∧(e.2.2.1.size:Int)≤9223372036854775807∧(e.2.2.2.2.1.size:Int)≤9223372036854775807∧∀ d∈e.2.2.2.1,(d.size:Int)≤9223372036854775807
set_option maxHeartbeats 8000000 in
theorem checkEventR_f (c:Cache) (e:Ev) (hb:c.2.2.1.length≤1000000) (he:c.2.2.2.length≤1000000) (hr:Rising (fun b:Blob=>b.1) c.2.2.1) (hd:EvB e):FRet Tryz.prog 53 [.f (pCache c),aEv e] [.c (.v (.int .i64 (ckR c.2.2.1 c.2.2.2 e)))]:=by
 obtain⟨kind,at_,dg,ds,key,size⟩:=e
 obtain⟨room,lease,bl,en⟩:=c
 obtain⟨hd1,hd2,hd3,hd4⟩:=hd
 dsimp only at hb he hr hd1 hd2 hd3 hd4 ⊢
 have hf:=fieldsR_f kind at_ dg ds key size
 have hri:=rising_f ds hd1 hd4
 have hB:=blobR_f (room,lease,bl,en) dg (by show(bl.length:Int)≤_;omega)
 have hi1:=isDigestR_f dg hd2
 have hi2:=isDigestR_f key hd3
 obtain⟨Q,hQ⟩:∃ Q,(if at_<newestV bl en then 11 else clashV bl kind dg size)=Q:=⟨_,rfl⟩
 have hCk:ckR bl en (kind,at_,dg,ds,key,size)=if ckEv (kind,at_,dg,ds,key,size)=0 then Q else ckEv (kind,at_,dg,ds,key,size):=by rw[← hQ];rfl
 have hQ1:(∃ b∈bl,at_<b.2.2.1)∨(∃ e∈en,at_<e.2.2)→Q=11:=fun h=>by
  rw[← hQ,if_pos]
  refine Int.not_le.1 fun h2=> ?_
  obtain⟨_,h3,h4⟩:=newest_leR.1 h2
  rcases h with⟨b,hb,h5⟩|⟨b,hb,h5⟩
  ·have:=h3 b hb;omega
  ·have:=h4 b hb;omega
 have hQ2:0≤at_→(∀ b∈bl,b.2.2.1≤at_)→(∀ e∈en,e.2.2≤at_)→Q=clashV bl kind dg size:=fun h0 h1 h2=>by
  rw[← hQ,if_neg]
  exact Int.not_lt.2 (newest_leR.2 ⟨h0,h1,h2⟩)
 rw[hCk]
 clear hCk hd1 hd2 hd3 hd4 hQ
 replace hQ1:=hide hQ1
 replace hQ2:=hide hQ2
 have hR:=hide hr
 clear hr
 unfold ckEv ckDigsM
 dsimp only
 generalize hcD:ckDigs ds=cD at*
 clear hcD
 obtain⟨x1,x3,x6,x7,d1,d3,d6,d7,hk,hx⟩:=kinds kind
 rw[hk]at hf ⊢
 clear hk
 generalize hV:(if _=(0:Int)then Q else _)=V
 refine FCall.of_ax low_ref7_checkEvent ?_
 dsimp only[jm,ji,jf,jl,jL,jn,je,jx,jT,jC,jB,jq,jt,ju,jA,km,kf,kl,kn,kx,l_ref7_checkEvent,aEv,pCache,frStrs]at hB hf ⊢
 rcases hx with hx|hx|hx|hx|hx<;>(simp only[Prod.mk.injEq]at hx;obtain⟨rfl,rfl,rfl,rfl⟩:=hx)
 all_goals
  simp only[Bool.not_true,Bool.not_false,Bool.or_false,Bool.false_or,Bool.or_true,Bool.true_or,Bool.and_false,Bool.false_and,Bool.true_and,Bool.and_true]at hf hV
  replace hV:=hide hV
  refine zs ?_
 repeat'(first|(simp -implicitDefEqProofs only[*,List.length_map,zr,seval,reduceIte,reduceCtorEq])|(apply zk<;>intro hc)|(refine zp ?_)|(refine zd ?_)|(refine cP (withinR_f kind 1 8) ?_)|(refine cD (withinR_f kind 1 8) ?_)|(refine cF (withinR_f kind 1 8) ?_)|(refine cO (withinR_f kind 1 8) ?_)|(refine cP (hf) ?_)|(refine cD (hf) ?_)|(refine cF (hf) ?_)|(refine cO (hf) ?_)|(refine cP (hi1) ?_)|(refine cD (hi1) ?_)|(refine cF (hi1) ?_)|(refine cO (hi1) ?_)|(refine cP (hi2) ?_)|(refine cD (hi2) ?_)|(refine cF (hi2) ?_)|(refine cO (hi2) ?_)|(refine cP (hri) ?_)|(refine cD (hri) ?_)|(refine cF (hri) ?_)|(refine cO (hri) ?_)|(refine cP (withinR_f size 0 100000000) ?_)|(refine cD (withinR_f size 0 100000000) ?_)|(refine cF (withinR_f size 0 100000000) ?_)|(refine cO (withinR_f size 0 100000000) ?_)|(refine cP (withinR_f at_ 0 1000000000) ?_)|(refine cD (withinR_f at_ 0 1000000000) ?_)|(refine cF (withinR_f at_ 0 1000000000) ?_)|(refine cO (withinR_f at_ 0 1000000000) ?_)|fail)
 all_goals
  replace d1:=hide d1
  replace d3:=hide d3
  replace d6:=hide d6
  replace d7:=hide d7
 all_goals try (refine ret_ve ?_;rw[← hV.out];simp only[*,Int.reduceEq,Int.reduceNe,if_true,if_false,ne_eq,not_true_eq_false,not_false_eq_true,reduceIte,Bool.false_eq_true,Bool.true_and,Bool.and_true,Bool.false_and,Bool.and_false,Bool.not_true,Bool.not_false,Bool.true_or,Bool.or_true,Bool.false_or,Bool.or_false,decide_true,decide_false,reduceCtorEq];done)
 all_goals try simp only[decide_eq_true_eq,decide_eq_false_iff_not]at*
 all_goals try (refine ret_ve ?_;rw[← hV.out];simp only[*,Int.reduceEq,Int.reduceNe,if_true,if_false,ne_eq,not_true_eq_false,not_false_eq_true,reduceIte,Bool.false_eq_true,Bool.true_and,Bool.and_true,Bool.false_and,Bool.and_false,Bool.not_true,Bool.not_false,Bool.true_or,Bool.or_true,Bool.false_or,Bool.or_false,decide_true,decide_false,reduceCtorEq];done)
 all_goals
  have hVQ:V=Q:=by rw[← hV.out];simp only[*,Int.reduceEq,Int.reduceNe,if_true,if_false,ne_eq,not_true_eq_false,not_false_eq_true,reduceIte,Bool.false_eq_true,Bool.true_and,Bool.and_true,Bool.false_and,Bool.and_false,Bool.not_true,Bool.not_false,Bool.true_or,Bool.or_true,Bool.false_or,Bool.or_false,decide_true,decide_false,reduceCtorEq]
  subst hVQ
  clear hV
  replace d1:=d1.out
  replace d3:=d3.out
  replace d6:=d6.out
  replace d7:=d7.out
  have h0:0≤at_:=by
   have h:inRg at_ 0 1000000000=true:=by assumption
   unfold inRg at h
   simp only[Bool.and_eq_true,decide_eq_true_eq]at h
   omega
  clear hf hi1 hi2 hri
  refine ax_loopU (S:=Nat) 156 [0,3] [3] (fun s=>[(8,.f (.int .i64 s))]) (fun s=>[]) (fun s=>s≤bl.length∧∀ (m:Nat) b,m<s→bl[m]? = some b→b.2.2.1≤at_) (fun s=>bl.length - s) (0) [] ?_ ?_ fun s hs=> ?_
  ·exact⟨Nat.zero_le _,fun m b h=>absurd h (by omega)⟩
  ·refine wk_i ?_ ?_<;>simp only[zw,seval,reduceIte,reduceCtorEq]
  obtain⟨hi,hall⟩:=hs
  have hA:=hide hall
  clear hall
  refine zs ?_
  rcases Nat.lt_or_ge s bl.length with hlt|hge
  ·obtain⟨x,hx⟩:=get_some hlt
   have h4:=inc64 hlt (by omega)
   have h2:=lt_t hlt
   by_cases hu:at_<x.2.2.1
   ·have e1:=hQ1.out (.inl ⟨x,List.mem_of_getElem? hx,hu⟩)
    have dd1:decide (at_<x.2.2.1)=true:=dcT hu
    have dd2:decide (x.2.2.1 > at_)=true:=dcT hu
    clear hQ1 hQ2 hA hu
    repeat'(first|(simp -implicitDefEqProofs only[*,frBlobs,frEntries,List.getElem?_map,Option.map_some,List.length_map,fBlob,addFp_wr,zr,seval,reduceIte,reduceCtorEq])|(apply zk<;>intro hc)|(refine zp ?_)|(refine zd ?_)|fail)
    first|exact ret_v|exact ret_ve (by rw[e1])
   ·have dd1:decide (at_<x.2.2.1)=false:=dcF hu
    have dd2:decide (x.2.2.1 > at_)=false:=dcF hu
    have hn:∀ (m:Nat) b,m<s+1→bl[m]? = some b→b.2.2.1≤at_:=fun m b hm hb2=>by
     rcases Nat.lt_succ_iff_lt_or_eq.1 hm with h1|rfl
     ·exact hA.out m b h1 hb2
     ·rw[hx]at hb2;obtain rfl:=Option.some.inj hb2;omega
    clear hu
    replace hn:=hide hn
    repeat'(first|(simp -implicitDefEqProofs only[*,frBlobs,frEntries,List.getElem?_map,Option.map_some,List.length_map,fBlob,addFp_wr,zr,seval,reduceIte,reduceCtorEq])|(apply zk<;>intro hc)|(refine zp ?_)|(refine zd ?_)|fail)
    refine⟨s+1,⟨hlt,hn.out⟩,by omega,?_⟩
    refine wk_i ?_ ?_<;>simp only[zw,seval,reduceIte,reduceCtorEq]
  obtain rfl:s=bl.length:=by omega
  have h2:=lt_f hge
  have hBl:∀ b∈bl,b.2.2.1≤at_:=fun b hb2=>by
   obtain⟨k,hk⟩:=List.mem_iff_getElem?.1 hb2
   exact hA.out k b (List.getElem?_eq_some_iff.1 hk).1 hk
  clear hA
  replace hBl:=hide hBl
  repeat'(first|(simp -implicitDefEqProofs only[*,frBlobs,frEntries,List.length_map,zr,seval,reduceIte,reduceCtorEq])|(apply zk<;>intro hc)|(refine zp ?_)|(refine zd ?_)|fail)
  clear h2
  refine ax_loopU (S:=Nat) 156 [0,3] [3] (fun s=>[(9,.f (.int .i64 s))]) (fun s=>[]) (fun s=>s≤en.length∧∀ (m:Nat) b,m<s→en[m]? = some b→b.2.2≤at_) (fun s=>en.length - s) (0) [] ?_ ?_ fun s hs=> ?_
  ·exact⟨Nat.zero_le _,fun m b h=>absurd h (by omega)⟩
  ·refine wk_i ?_ ?_<;>simp only[zw,seval,reduceIte,reduceCtorEq]
  obtain⟨hi,hall⟩:=hs
  have hA:=hide hall
  clear hall
  refine zs ?_
  rcases Nat.lt_or_ge s en.length with hlt|hge
  ·obtain⟨x,hx⟩:=get_some hlt
   have h4:=inc64 hlt (by omega)
   have h2:=lt_t hlt
   by_cases hu:at_<x.2.2
   ·have e1:=hQ1.out (.inr ⟨x,List.mem_of_getElem? hx,hu⟩)
    have dd1:decide (at_<x.2.2)=true:=dcT hu
    have dd2:decide (x.2.2 > at_)=true:=dcT hu
    clear hQ1 hQ2 hA hu
    repeat'(first|(simp -implicitDefEqProofs only[*,frBlobs,frEntries,List.getElem?_map,Option.map_some,List.length_map,fEntry,addFp_wr,zr,seval,reduceIte,reduceCtorEq])|(apply zk<;>intro hc)|(refine zp ?_)|(refine zd ?_)|fail)
    first|exact ret_v|exact ret_ve (by rw[e1])
   ·have dd1:decide (at_<x.2.2)=false:=dcF hu
    have dd2:decide (x.2.2 > at_)=false:=dcF hu
    have hn:∀ (m:Nat) b,m<s+1→en[m]? = some b→b.2.2≤at_:=fun m b hm hb2=>by
     rcases Nat.lt_succ_iff_lt_or_eq.1 hm with h1|rfl
     ·exact hA.out m b h1 hb2
     ·rw[hx]at hb2;obtain rfl:=Option.some.inj hb2;omega
    clear hu
    replace hn:=hide hn
    repeat'(first|(simp -implicitDefEqProofs only[*,frBlobs,frEntries,List.getElem?_map,Option.map_some,List.length_map,fEntry,addFp_wr,zr,seval,reduceIte,reduceCtorEq])|(apply zk<;>intro hc)|(refine zp ?_)|(refine zd ?_)|fail)
    refine⟨s+1,⟨hlt,hn.out⟩,by omega,?_⟩
    refine wk_i ?_ ?_<;>simp only[zw,seval,reduceIte,reduceCtorEq]
  obtain rfl:s=en.length:=by omega
  have h2:=lt_f hge
  have hEl:∀ b∈en,b.2.2≤at_:=fun b hb2=>by
   obtain⟨k,hk⟩:=List.mem_iff_getElem?.1 hb2
   exact hA.out k b (List.getElem?_eq_some_iff.1 hk).1 hk
  have hq:=hQ2.out h0 hBl.out hEl
  clear hA hQ1 hQ2 hBl hEl
  cases hh:hasB bl dg
  ·rw[clash_no hh]at hq
   rw[show firstK (fun b:Blob=>b.1) bl dg = -1 from firstK_hasnt hh]at hB
   clear hh
   subst hq
   have d4:∃ x4,decide (kind=4)=x4:=⟨_,rfl⟩
   obtain⟨x4,d4⟩:=d4
   repeat'(first|(simp -implicitDefEqProofs only[*,frBlobs,frEntries,List.length_map,addFp_wr,zr,seval,reduceIte,reduceCtorEq])|(apply zk<;>intro hc)|(refine zp ?_)|(refine zd ?_)|(refine cP (hB) ?_)|(refine cD (hB) ?_)|(refine cF (hB) ?_)|(refine cO (hB) ?_)|fail)
   all_goals exact ret_v
  ·obtain⟨y,hy,hyd⟩:=hasB_at hR.out hh
   rw[show firstK (fun b:Blob=>b.1) bl dg=(bIdx bl dg:Nat)from firstB hR.out hh]at hB
   have hcl:clashV bl kind dg size=if kind=1 then(if y.2.1=size then 0 else 12)else if kind=4 then(if y.2.2.2.2=3000 then 16 else 0)else 0:=by
    unfold clashV
    rw[hy,hh];rfl
   rw[hcl]at hq
   generalize bIdx bl dg=i at*
   have hlt2:=(List.getElem?_eq_some_iff.1 hy).1
   have hL:=lt_t hlt2
   have dk:decide ((i:Int)≥0)=true:=dcT (by omega)
   have dk2:decide ((0:Int)≤(i:Int))=true:=dcT (by omega)
   clear hyd hcl hh hR
   replace hq:=hide hq
   repeat'(first|(simp -implicitDefEqProofs only[*,frBlobs,frEntries,List.getElem?_map,Option.map_some,List.length_map,fBlob,addFp_wr,zr,seval,reduceIte,reduceCtorEq])|(apply zk<;>intro hc)|(refine zp ?_)|(refine zd ?_)|(refine cP (hB) ?_)|(refine cD (hB) ?_)|(refine cF (hB) ?_)|(refine cO (hB) ?_)|fail)
   all_goals
    clear hB
    replace hq:=hq.out
    try simp only[decide_eq_true_eq,decide_eq_false_iff_not]at*
    refine ret_ve ?_
    rw[hq]
    simp only[*,Int.reduceEq,Int.reduceNe,if_true,if_false,ne_eq,not_true_eq_false,not_false_eq_true,reduceIte,Bool.false_eq_true,Bool.true_and,Bool.and_true,Bool.false_and,Bool.and_false,Bool.not_true,Bool.not_false,Bool.true_or,Bool.or_true,Bool.false_or,Bool.or_false,decide_true,decide_false,reduceCtorEq]
end Go.Proofs.YtfajjcmagngfiaaGreatDoor
