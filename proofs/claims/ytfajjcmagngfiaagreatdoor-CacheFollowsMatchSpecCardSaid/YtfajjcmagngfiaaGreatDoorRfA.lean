/-
  The reference's held, row, drop, copied. No statement of the seat is proved here; no conditions.
-/
import Derived.Test.YtfajjcmagngfiaaGreatDoorShr
import Derived.Test.YtfajjcmagngfiaaGreatDoorCaQ
import Derived.Test.YtfajjcmagngfiaaGreatDoorPtr
import Derived.Test.YtfajjcmagngfiaaGreatDoorLowR
namespace Go.Proofs.YtfajjcmagngfiaaGreatDoor
open Go.RowKit Go.Shelf
set_option linter.unusedVariables false
set_option linter.unusedSimpArgs false
set_option maxRecDepth 100000

theorem heldR_f (b:Blob) (at_:Int):FRet Tryz.prog 78 [.agg ((fBlob b).map .f),.f (.int .i64 at_)] [.c (.v (.bool (heldB b at_)))]:=by
 obtain⟨bd,bs,bu,bn,bp⟩:=b
 refine FCall.of_ax low_ref7_held ?_
 dsimp only[jm,ji,jf,jl,jL,jn,je,jx,jT,jC,jB,jq,jt,ju,jA,km,kf,kl,kn,kx,l_ref7_held,fBlob,List.map_cons,List.map_nil]
 refine zs ?_
 repeat'(first|(simp -implicitDefEqProofs only[*,zr,seval,reduceIte,reduceCtorEq])|(apply zk<;>intro hc)|(refine zp ?_)|(refine zd ?_)|fail)
 all_goals (refine ret_ve ?_;simp only[heldB, *,Bool.true_or,Bool.false_or])
theorem copied_f (c:Cache) (hb:c.2.2.1.length≤1000000) (he:c.2.2.2.length≤1000000) (hr:∀ e∈c.2.2.2,e.2.1.length≤1000000) :
  FRetN Tryz.prog 20 [aCache c] [.v (.int .i64 c.1),.v (.int .i64 c.2.1),.own 5 c.2.2.1.length (rowF fBlob c.2.2.1),.own 3 c.2.2.2.length (rowF fEntry c.2.2.2)]:=by
 obtain⟨room,lease,bl,en⟩:=c
 simp only at hb he hr ⊢
 have hR:=hide hr
 clear hr
 refine FCall.of_ax low_ref7_copied ?_
 dsimp only[jm,ji,jf,jl,jL,jn,je,jx,jT,jC,jB,jq,jt,ju,jA,km,kf,kl,kn,kx,l_ref7_copied,aCache]
 refine zs ?_
 have h48:(bl.length*48≤140737488355328)=True:=by rw[eq_iff_iff,iff_true];omega
 repeat'(first|(simp -implicitDefEqProofs only[*,frBlobs,frEntries,addFp_wr,zr,seval,reduceIte,reduceCtorEq])|(apply zk<;>intro hc)|(refine zp ?_)|(refine zd ?_)|fail)
 refine ax_loopU (S:=Nat) 63 [1,3] [1,19] (fun s=>[(4,.f (.int .i64 s))]) (fun s=>[(11,1,AObj.cells [.f (.int .i64 room),.f (.int .i64 lease),.sl 19 1 5 0 bl.length,.sl 59 1 3 0 s]),(59,1,AObj.cells ((rowF fEntry (en.take s)).map AV.f))]) (fun s=>s≤en.length) (fun s=>en.length - s) (0) [59] ?_ ?_ fun s hs=> ?_
 ·exact Nat.zero_le _
 ·refine wk_i ?_ ?_<;>simp only[List.take_zero,row_nil,zw,seval,reduceIte,reduceCtorEq]
 refine zs ?_
 rcases Nat.lt_or_ge s en.length with hlt|hge
 ·obtain⟨x,hx⟩:=get_some hlt
  have h4:=inc64 hlt (by omega)
  have h2:=lt_t hlt
  have hxr:=hR.out x (List.mem_of_getElem? hx)
  have hs2:rowF fEntry (en.take (s+1))=rowF fEntry (en.take s)++fEntry x:=by rw[List.take_add_one,hx];exact row_snoc
  have hlen:(rowF fEntry (en.take s)).length=(0+s)*3:=by rw[row_len (sz:=3) (fun _=>rfl),List.length_take];omega
  have h16:(x.2.1.length*16≤140737488355328)=True:=by rw[eq_iff_iff,iff_true];omega
  have h49:((s+1)*48≤140737488355328)=True:=by rw[eq_iff_iff,iff_true];omega
  repeat'(first|(simp -implicitDefEqProofs only[*,List.getElem?_map,Option.map_some,fEntry,frStrs,addFp_wr,zr,seval,reduceIte,reduceCtorEq])|(apply zk<;>intro hc)|(refine zp ?_)|(refine zd ?_)|fail)
  refine⟨s+1,hlt,by omega,?_⟩
  rw[hs2]
  refine wk_i ?_ ?_<;>simp only[zw,seval,reduceIte,reduceCtorEq]
  rw[List.map_append]
  refine SlotsOk.app (SlotsOk.fs rfl) ?_
  show SlotsOk _ _ _ [_,_,_] [_,_,_]
  rw[so_cons,so_cons,so_cons,so_nil]
  refine⟨so_f,?_,so_f,trivial⟩
  exact so_row0 (enc:=encS) (l:=x.2.1) (fun _=>rfl) rfl rfl rfl
 ·obtain rfl:s=en.length:=by omega
  have h2:=lt_f hge
  have h3:=List.take_length (l:=en)
  repeat'(first|(simp -implicitDefEqProofs only[*,zr,seval,reduceIte,reduceCtorEq])|(apply zk<;>intro hc)|(refine zp ?_)|(refine zd ?_)|fail)
  exact⟨11,1,[.f (.int .i64 room),.f (.int .i64 lease),.sl 19 1 5 0 bl.length,.sl 59 1 3 0 en.length],rfl,rfl,⟨rfl,rfl,.inr ⟨_,_,rfl,rfl,by rw[row_len (sz:=5) (fun _=>rfl)];exact Nat.le_refl _⟩,.inr ⟨_,_,rfl,rfl,by rw[row_len (sz:=3) (fun _=>rfl)];exact Nat.le_refl _⟩,rfl⟩,by simp [idsC],by simp [idsC]⟩
set_option maxHeartbeats 1000000 in
theorem rowR_f (c:Cache) (at_:Int) (hb:c.2.2.1.length≤1000000) (hr:RiseB c.2.2.1):FRet Tryz.prog 97 [.f (pCache c),.f (.int .i64 at_)] [.c (.own 1 (leavV c.2.2.1 at_).length ((digsB (leavV c.2.2.1 at_)).map .str))]:=by
 obtain⟨room,lease,bl,en⟩:=c
 simp only at hb hr ⊢
 have hR:=hide hr
 clear hr
 refine FCall.of_ax low_ref7_row ?_
 dsimp only[jm,ji,jf,jl,jL,jn,je,jx,jT,jC,jB,jq,jt,ju,jA,km,kf,kl,kn,kx,l_ref7_row,pCache]
 refine zs ?_
 repeat'(first|(simp -implicitDefEqProofs only[*,frBlobs,frEntries,zr,seval,reduceIte,reduceCtorEq])|(apply zk<;>intro hc)|(refine zp ?_)|(refine zd ?_)|fail)
 refine ax_loopU (S:=Nat) 77 [0,1] [] (fun s=>[(5,.f (.fr 5 ((leavV (bl.take s) at_).map fBlob))),(6,.f (.int .i64 s))]) (fun s=>[]) (fun s=>s≤bl.length) (fun s=>bl.length - s) (0) [] ?_ ?_ fun s hs=> ?_
 ·exact Nat.zero_le _
 ·refine wk_i ?_ ?_<;>simp only[List.take_zero,leav_nil,zw,seval,reduceIte,reduceCtorEq]
  exact⟨_,rfl⟩
 refine zs ?_
 rcases Nat.lt_or_ge s bl.length with hlt|hge
 ·obtain⟨x,hx⟩:=get_some hlt
  have h4:=inc64 hlt (by omega)
  have h2:=lt_t hlt
  have hh:=heldR_f x at_
  have hL:=leav_len (at_:=at_) (bl:=bl.take s) (by rw[List.length_take];omega)
  cases hd:heldB x at_
  ·rw[hd]at hh
   repeat'(first|(simp -implicitDefEqProofs only[*,List.getElem?_map,Option.map_some,fBlob,zr,seval,reduceIte,reduceCtorEq])|(apply zk<;>intro hc)|(refine zp ?_)|(refine zd ?_)|(refine cP (hh) ?_)|(refine cD (hh) ?_)|(refine cF (hh) ?_)|(refine cO (hh) ?_)|fail)
   obtain⟨i,hi⟩:∃ i,i=s:=⟨s,rfl⟩
   subst hi
   have hO:=fun k=>leav_out (k:=k) hR.out hx hd
   generalize leavV (bl.take i) at_=L at hO hL ⊢
   clear hh hd
   have hO2:=hide hO
   clear hO
   refine ax_loopU (S:=Nat) 77 [0,1,5,6,7] [7] (fun s=>[(8,.f (.int .i64 s))]) (fun s=>[]) (fun s=>s≤L.length∧∀ (m:Nat) y,s≤m→L[m]? = some y→x.2.2.1<y.2.2.1) (fun s=>s) (L.length) [] ?_ ?_ fun s hs=> ?_
   ·exact⟨Nat.le_refl _,fun m y h1 h2=>absurd (List.getElem?_eq_some_iff.1 h2).1 (by omega)⟩
   ·refine wk_i ?_ ?_<;>simp only[zw,seval,reduceIte,reduceCtorEq]
   obtain⟨hs1,hs2⟩:=hs
   refine zs ?_
   have fin:(s=0∨∃ y,L[s - 1]? = some y∧y.2.2.1≤x.2.2.1)→leavV (bl.take (i+1)) at_=L.take s++x::L.drop s:=fun h=>hO2.out s hs1 hs2 h
   have hle:((s:Int)≤(L.length:Int))=True:=by rw[eq_iff_iff,iff_true];omega
   have hle2:(s≤L.length)=True:=by rw[eq_iff_iff,iff_true];omega
   obtain⟨T1,hT1⟩:∃ T,List.take s (L.map fBlob)=T:=⟨_,rfl⟩
   obtain⟨T2,hT2⟩:∃ T,List.drop s (L.map fBlob)=T:=⟨_,rfl⟩
   have k1:T1.length=s:=by rw[← hT1,List.length_take,List.length_map];omega
   have k2:T2.length=L.length - s:=by rw[← hT2,List.length_drop,List.length_map]
   have k3:T1.flatten=rowF fBlob (L.take s):=by rw[← hT1,← List.map_take];rfl
   have k4:T2.flatten=rowF fBlob (L.drop s):=by rw[← hT2,← List.map_drop];rfl
   have k5:T1.flatten.length=s*5:=by rw[k3,row_len (sz:=5) (fun _=>rfl),List.length_take];omega
   have kk:s+1+(L.length - s)=L.length+1:=by omega
   have k6:(s*48≤140737488355328)=True:=by rw[eq_iff_iff,iff_true];omega
   have k7:((s+1)*48≤140737488355328)=True:=by rw[eq_iff_iff,iff_true];omega
   have k8:((L.length+1)*48≤140737488355328)=True:=by rw[eq_iff_iff,iff_true];omega
   have k9:s*5+5=(s+1)*5:=by omega
   have k10:((L.length:Int)≤(L.length:Int))=True:=by rw[eq_iff_iff,iff_true];omega
   have k11:List.take L.length (L.map fBlob)=L.map fBlob:=by rw[List.take_of_length_le (by rw[List.length_map];exact Nat.le_refl _)]
   replace k3:=hide k3
   replace k4:=hide k4
   rcases Nat.eq_zero_or_pos s with h0|hpos
   ·have hF:=hide (fin (.inl h0))
    have d0:decide ((0:Int)<(s:Int))=false:=dcF (by omega)
    clear fin hs2 hO2 h0
    repeat'(first|(simp -implicitDefEqProofs only[*,List.getElem?_map,Option.map_some,fBlob,addFp_wr,List.length_append,List.length_map,zr,seval,reduceIte,reduceCtorEq])|(apply zk<;>intro hc)|(refine zp ?_)|(refine zd ?_)|fail)
    refine⟨i+1,hlt,by omega,?_⟩
    refine wk_i ?_ ?_<;>simp only[zw,seval,reduceIte,reduceCtorEq]
    rw[hF.out]
    refine so_row0 (enc:=fBlob) (fun _=>rfl) rfl ?_ (by simp;omega)
    show some _=some _
    rw[k3.out,k4.out,row_app,row_cons]
    simp [List.map_append,fBlob]
   ·obtain⟨y,hy⟩:=get_some (l:=L) (i:=s - 1) (by omega)
    have d0:decide ((0:Int)<(s:Int))=true:=dcT (by omega)
    have h6:IntKind.i64.wrap ((s:Int) - 1)=((s - 1:Nat):Int):=by rw[wrap64]<;>omega
    by_cases hyx:x.2.2.1<y.2.2.1
    ·have d2:decide (x.2.2.1<y.2.2.1)=true:=dcT hyx
     have hs3:∀ (m:Nat) z,s - 1≤m→L[m]? = some z→x.2.2.1<z.2.2.1:=fun m z hm hz=>by
      rcases Nat.lt_or_ge m s with h|h
      ·obtain rfl:m=s - 1:=by omega
       rw[hy]at hz;obtain rfl:=Option.some.inj hz;exact hyx
      ·exact hs2 m z h hz
     have hS3:=hide hs3
     clear fin hs2 hO2 hs3
     repeat'(first|(simp -implicitDefEqProofs only[*,List.getElem?_map,Option.map_some,fBlob,addFp_wr,zr,seval,reduceIte,reduceCtorEq])|(apply zk<;>intro hc)|(refine zp ?_)|(refine zd ?_)|fail)
     refine⟨s - 1,⟨by omega,hS3.out⟩,by omega,?_⟩
     refine wk_i ?_ ?_<;>simp only[zw,seval,reduceIte,reduceCtorEq]
    ·have d2:decide (x.2.2.1<y.2.2.1)=false:=dcF hyx
     have hF:=hide (fin (.inr ⟨y,hy,by omega⟩))
     clear fin hs2 hO2 hyx
     repeat'(first|(simp -implicitDefEqProofs only[*,List.getElem?_map,Option.map_some,fBlob,addFp_wr,List.length_append,List.length_map,zr,seval,reduceIte,reduceCtorEq])|(apply zk<;>intro hc)|(refine zp ?_)|(refine zd ?_)|fail)
     refine⟨i+1,hlt,by omega,?_⟩
     refine wk_i ?_ ?_<;>simp only[zw,seval,reduceIte,reduceCtorEq]
     rw[hF.out]
     refine so_row0 (enc:=fBlob) (fun _=>rfl) rfl ?_ (by simp;omega)
     show some _=some _
     rw[k3.out,k4.out,row_app,row_cons]
     simp [List.map_append,fBlob]
  ·rw[hd]at hh
   have hE:=leav_in hx hd
   repeat'(first|(simp -implicitDefEqProofs only[*,List.getElem?_map,Option.map_some,zr,seval,reduceIte,reduceCtorEq])|(apply zk<;>intro hc)|(refine zp ?_)|(refine zd ?_)|(refine cP (hh) ?_)|(refine cD (hh) ?_)|(refine cF (hh) ?_)|(refine cO (hh) ?_)|fail)
   refine⟨s+1,hlt,by omega,?_⟩
   rw[hE]
   refine wk_i ?_ ?_<;>simp only[zw,seval,reduceIte,reduceCtorEq]
 ·obtain rfl:s=bl.length:=by omega
  have h2:=lt_f hge
  have h3:=List.take_length (l:=bl)
  have hL:=leav_len (at_:=at_) (bl:=bl) hb
  repeat'(first|(simp -implicitDefEqProofs only[*,zr,seval,reduceIte,reduceCtorEq])|(apply zk<;>intro hc)|(refine zp ?_)|(refine zd ?_)|fail)
  clear h2 h3 hge
  generalize leavV bl at_=L at*
  refine ax_loopU (S:=Nat) 77 [5] [] (fun s=>[(10,.sl 75 1 1 0 s),(11,.f (.int .i64 s))]) (fun s=>[(75,1,AObj.cells (((digsB (L.take s)).map FV.str).map AV.f))]) (fun s=>s≤L.length) (fun s=>L.length - s) (0) [75] ?_ ?_ fun s hs=> ?_
  ·exact Nat.zero_le _
  ·refine wk_i ?_ ?_<;>simp only[List.take_zero,digsB,zw,seval,reduceIte,reduceCtorEq]
  refine zs ?_
  rcases Nat.lt_or_ge s L.length with hlt|hge
  ·obtain⟨x,hx⟩:=get_some hlt
   have h4:=inc64 hlt (by omega)
   have h2:=lt_t hlt
   have hs2:digsB (L.take (s+1))=digsB (L.take s)++ [x.1]:=by unfold digsB;rw[List.take_add_one,hx,List.map_append];rfl
   have h8:((s+1)*16≤140737488355328)=True:=by rw[eq_iff_iff,iff_true];omega
   have hlen:(digsB (L.take s)).length=s:=by unfold digsB;rw[List.length_map,List.length_take];omega
   generalize hm:digsB (L.take s)=mm at hs2 hlen ⊢
   repeat'(first|(simp -implicitDefEqProofs only[*,List.getElem?_map,Option.map_some,fBlob,zr,seval,reduceIte,reduceCtorEq])|(apply zk<;>intro hc)|(refine zp ?_)|(refine zd ?_)|fail)
   refine⟨s+1,hlt,by omega,?_⟩
   rw[hs2]
   refine wk_i ?_ ?_<;>simp only[List.length_append,zw,seval,reduceIte,reduceCtorEq]
   exact SlotsOk.of_eq (by simp)
  ·obtain rfl:s=L.length:=by omega
   have h2:=lt_f hge
   have h3:=List.take_length (l:=L)
   repeat'(first|(simp -implicitDefEqProofs only[*,zr,seval,reduceIte,reduceCtorEq])|(apply zk<;>intro hc)|(refine zp ?_)|(refine zd ?_)|fail)
   exact ret_o (by simp [cellsOf,mkH,lookH]) (by simp [digsB])
end Go.Proofs.YtfajjcmagngfiaaGreatDoor
