/-
  The reference's space. No statement of the seat is proved here; no conditions.
-/
import Derived.Test.YtfajjcmagngfiaaGreatDoorRfB
namespace Go.Proofs.YtfajjcmagngfiaaGreatDoor
open Go.RowKit Go.Shelf
set_option linter.unusedVariables false
set_option linter.unusedSimpArgs false
set_option maxRecDepth 100000

theorem rise_take_sum {bl:List Blob}(h:∀ b∈bl,0≤b.2.1∧b.2.1≤100000000) (at_:Int) (s:Nat) (hb:bl.length≤100000):0≤stayTo bl at_ s∧stayTo bl at_ s≤10000000000000:=by
 have h1:=sum_range (l:=(bl.take s).filter fun b=>heldB b at_) (B:=100000000) fun b hb=>h b (List.mem_of_mem_take (List.mem_filter.1 hb).1)
 have h2:((bl.take s).filter fun b=>heldB b at_).length≤bl.length:=Nat.le_trans (List.length_filter_le _ _) (by rw[List.length_take];omega)
 unfold stayTo
 omega
set_option maxHeartbeats 1000000 in
theorem spaceR_no (room lease:Int) (bl:List Blob) (en:List Entry) (most at_:Int) (hb:bl.length≤100000) (hsz:∀ b∈bl,0≤b.2.1∧b.2.1≤100000000) (hn:most<stayTo bl at_ bl.length) :
  FRetP Tryz.prog 74 [.v (.int .i64 room),.v (.int .i64 lease),.own 5 bl.length (rowF fBlob bl),.own 3 en.length (rowF fEntry en)] [] [.f (.int .i64 most),.f (.int .i64 at_)]
   [.v (.int .i64 room),.v (.int .i64 lease),.own 5 bl.length (rowF fBlob bl),.own 3 en.length (rowF fEntry en)] [.c (.own 1 0 []),.c (.v (.bool false))]:=by
 have hSZ:=hide hsz
 have hst:=hide (fun s=>rise_take_sum hsz at_ s hb)
 clear hsz
 refine FCall.of_ax low_ref7_space ?_
 dsimp only[jm,ji,jf,jl,jL,jn,je,jx,jT,jC,jB,jq,jt,ju,jA,km,kf,kl,kn,kx,l_ref7_space]
 refine zs ?_
 repeat'(first|(simp -implicitDefEqProofs only[*,zr,seval,reduceIte,reduceCtorEq])|(apply zk<;>intro hc)|(refine zp ?_)|(refine zd ?_)|fail)
 refine ax_loopU (S:=Nat) 76 [0,1,2] [80000,81000,100001] (fun s=>[(8,.f (.int .i64 (stayTo bl at_ s))),(9,.f (.int .i64 s))]) (fun s=>[]) (fun s=>s≤bl.length) (fun s=>bl.length - s) (0) [] ?_ ?_ fun s hs=> ?_
 ·exact Nat.zero_le _
 ·refine wk_i ?_ ?_<;>simp only[show stayTo bl at_ 0=0 from rfl,zw,seval,reduceIte,reduceCtorEq]
 refine zs ?_
 rcases Nat.lt_or_ge s bl.length with hlt|hge
 ·obtain⟨x,hx⟩:=get_some hlt
  have h4:=inc64 hlt (by omega)
  have h2:=lt_t hlt
  have hh:=heldR_f x at_
  have hs2:=stay_s (at_:=at_) hx
  have hld:=row_get (enc:=fBlob) (sz:=5) (fun _=>rfl) hx
  have hin1:=row_in (enc:=fBlob) (sz:=5) (l:=bl) (fun _=>rfl) hlt
  have hcell:=row_cell (enc:=fBlob) (sz:=5) (j:=1) (fun _=>rfl) hx (show _=some (FV.int .i64 x.2.1)from rfl)
  simp only[fBlob,List.map_cons,List.map_nil,List.length_map]at hld hin1 hh
  have hw:IntKind.i64.wrap (stayTo bl at_ s+x.2.1)=stayTo bl at_ s+x.2.1:=by
   have:=hst.out s
   have:=hSZ.out x (List.mem_of_getElem? hx)
   rw[wrap64]<;>omega
  cases hd:heldB x at_
  all_goals rw[hd]at hh hs2
  all_goals simp only[Bool.false_eq_true,if_false,if_true,Int.add_zero]at hs2
  all_goals have hS2:=hide hs2
  all_goals clear hs2 hx
  ·repeat'(first|(simp -implicitDefEqProofs only[*,List.getElem?_map,Option.map_some,zr,seval,reduceIte,reduceCtorEq])|(apply zk<;>intro hc)|(refine zp ?_)|(refine zd ?_)|(refine cP (hh) ?_)|(refine cD (hh) ?_)|(refine cF (hh) ?_)|(refine cO (hh) ?_)|fail)
   refine⟨s+1,hlt,by omega,?_⟩
   rw[hS2.out]
   refine wk_i ?_ ?_<;>simp only[zw,seval,reduceIte,reduceCtorEq]
  ·repeat'(first|(simp -implicitDefEqProofs only[*,List.getElem?_map,Option.map_some,zr,seval,reduceIte,reduceCtorEq])|(apply zk<;>intro hc)|(refine zp ?_)|(refine zd ?_)|(refine cP (hh) ?_)|(refine cD (hh) ?_)|(refine cF (hh) ?_)|(refine cO (hh) ?_)|fail)
   refine⟨s+1,hlt,by omega,?_⟩
   rw[hS2.out]
   refine wk_i ?_ ?_<;>simp only[zw,seval,reduceIte,reduceCtorEq]
 ·obtain rfl:s=bl.length:=by omega
  have h2:=lt_f hge
  have h3:decide (stayTo bl at_ bl.length > most)=true:=dcT hn
  have h5:decide (most<stayTo bl at_ bl.length)=true:=dcT hn
  clear hn
  repeat'(first|(simp -implicitDefEqProofs only[*,zr,seval,reduceIte,reduceCtorEq])|(apply zk<;>intro hc)|(refine zp ?_)|(refine zd ?_)|fail)
  exact⟨[.f .nil,.f (.bool false)],[.f (.int .i64 room),.f (.int .i64 lease),.sl 80000 1 5 0 bl.length,.sl 81000 1 3 0 en.length],rfl,rfl,⟨rfl,rfl,.inr ⟨80000,1,rfl,rfl,by rw[row_len (sz:=5) (fun _=>rfl)];exact Nat.le_refl _⟩,.inr ⟨81000,1,rfl,rfl,by rw[row_len (sz:=3) (fun _=>rfl)];exact Nat.le_refl _⟩,rfl⟩,⟨.inl ⟨rfl,rfl,rfl⟩,rfl,rfl⟩,by simp [idsC,idsS],by simp [idsC,idsS]⟩
set_option maxHeartbeats 1000000 in
theorem spaceR_yes (room lease:Int) (bl:List Blob) (en:List Entry) (most at_:Int) (hb:bl.length≤100000) (hsz:∀ b∈bl,0≤b.2.1∧b.2.1≤100000000) (hr:RiseB bl) (hn:stayTo bl at_ bl.length≤most) :
  FRetP Tryz.prog 74 [.v (.int .i64 room),.v (.int .i64 lease),.own 5 bl.length (rowF fBlob bl),.own 3 en.length (rowF fEntry en)] [] [.f (.int .i64 most),.f (.int .i64 at_)]
   [.v (.int .i64 room),.v (.int .i64 lease),.own 5 (keepL (fun b:Blob=>hasS b.1 (clrGone bl at_ (sumSz bl - most))) bl).length (rowF fBlob (keepL (fun b:Blob=>hasS b.1 (clrGone bl at_ (sumSz bl - most))) bl)),.own 3 en.length (rowF fEntry en)] [.c (.own 1 (clrGone bl at_ (sumSz bl - most)).length ((clrGone bl at_ (sumSz bl - most)).map .str)),.c (.v (.bool true))]:=by
 have hkeep:∀ s,cutN (sumSz bl - most) (leavV bl at_)=s→keepL (fun b:Blob=>hasS b.1 (clrGone bl at_ (sumSz bl - most))) bl=goneTo bl (leavV bl at_) s∧clrGone bl at_ (sumSz bl - most)=digsB ((leavV bl at_).take s):=fun s h=>by
  unfold clrGone goneTo;rw[h];exact⟨rfl,rfl⟩
 have hws:∀ s,wsum (goneTo bl (leavV bl at_) s)=sumSz bl - sumSz ((leavV bl at_).take s):=fun s=>by
  rw[wsum_eq (Nat.le_trans goneTo_len hb) (fun b hb=>hsz b (mem_keepL.1 hb).1),goneTo_sum hr]
 have hll:=leav_len (at_:=at_) (bl:=bl) (by omega)
 have hrow:=rowR_f (room,lease,bl,en) at_ (by show bl.length≤1000000;omega) hr
 have hdr:∀ s x,(leavV bl at_)[s]? = some x→FRetP Tryz.prog 79 [.v (.int .i64 room),.v (.int .i64 lease),.own 5 (goneTo bl (leavV bl at_) s).length (rowF fBlob (goneTo bl (leavV bl at_) s)),.own 3 en.length (rowF fEntry en)] [] [.f (.str x.1)]
   [.v (.int .i64 room),.v (.int .i64 lease),.own 5 (goneTo bl (leavV bl at_) (s+1)).length (rowF fBlob (goneTo bl (leavV bl at_) (s+1))),.own 3 en.length (rowF fEntry en)] []:=fun s x hx=>by
  obtain⟨k,h1,h2,h3⟩:=goneTo_drop hr hx
  have:=dropR_f room lease (goneTo bl (leavV bl at_) s) en x.1 k (by have:=goneTo_len (bl:=bl) (L:=leavV bl at_) (s:=s);omega) h1 h2
  rw[h3]at this;exact this
 have hby:∀ s,FRet Tryz.prog 51 [.f (frBlobs (goneTo bl (leavV bl at_) s))] [.c (.v (.int .i64 (sumSz bl - sumSz ((leavV bl at_).take s))))]:=fun s=>by
  have:=bytesOf_f (goneTo bl (leavV bl at_) s) (by have:=goneTo_len (bl:=bl) (L:=leavV bl at_) (s:=s);omega)
  rw[hws s]at this;exact this
 have hKEEP:=hide hkeep
 have hDR:=hide hdr
 have hBY:=hide hby
 clear hkeep hws hdr hby
 have hRR:=hide hr
 clear hr
 have hSZ:=hide hsz
 have hst:=hide (fun s=>rise_take_sum hsz at_ s hb)
 clear hsz
 refine FCall.of_ax low_ref7_space ?_
 dsimp only[jm,ji,jf,jl,jL,jn,je,jx,jT,jC,jB,jq,jt,ju,jA,km,kf,kl,kn,kx,l_ref7_space]
 refine zs ?_
 repeat'(first|(simp -implicitDefEqProofs only[*,zr,seval,reduceIte,reduceCtorEq])|(apply zk<;>intro hc)|(refine zp ?_)|(refine zd ?_)|fail)
 refine ax_loopU (S:=Nat) 76 [0,1,2] [80000,81000,100001] (fun s=>[(8,.f (.int .i64 (stayTo bl at_ s))),(9,.f (.int .i64 s))]) (fun s=>[]) (fun s=>s≤bl.length) (fun s=>bl.length - s) (0) [] ?_ ?_ fun s hs=> ?_
 ·exact Nat.zero_le _
 ·refine wk_i ?_ ?_<;>simp only[show stayTo bl at_ 0=0 from rfl,zw,seval,reduceIte,reduceCtorEq]
 refine zs ?_
 rcases Nat.lt_or_ge s bl.length with hlt|hge
 ·obtain⟨x,hx⟩:=get_some hlt
  have h4:=inc64 hlt (by omega)
  have h2:=lt_t hlt
  have hh:=heldR_f x at_
  have hs2:=stay_s (at_:=at_) hx
  have hld:=row_get (enc:=fBlob) (sz:=5) (fun _=>rfl) hx
  have hin1:=row_in (enc:=fBlob) (sz:=5) (l:=bl) (fun _=>rfl) hlt
  have hcell:=row_cell (enc:=fBlob) (sz:=5) (j:=1) (fun _=>rfl) hx (show _=some (FV.int .i64 x.2.1)from rfl)
  simp only[fBlob,List.map_cons,List.map_nil,List.length_map]at hld hin1 hh
  have hw:IntKind.i64.wrap (stayTo bl at_ s+x.2.1)=stayTo bl at_ s+x.2.1:=by
   have:=hst.out s
   have:=hSZ.out x (List.mem_of_getElem? hx)
   rw[wrap64]<;>omega
  cases hd:heldB x at_
  all_goals rw[hd]at hh hs2
  all_goals simp only[Bool.false_eq_true,if_false,if_true,Int.add_zero]at hs2
  all_goals have hS2:=hide hs2
  all_goals clear hs2 hx
  ·repeat'(first|(simp -implicitDefEqProofs only[*,List.getElem?_map,Option.map_some,zr,seval,reduceIte,reduceCtorEq])|(apply zk<;>intro hc)|(refine zp ?_)|(refine zd ?_)|(refine cP (hh) ?_)|(refine cD (hh) ?_)|(refine cF (hh) ?_)|(refine cO (hh) ?_)|fail)
   refine⟨s+1,hlt,by omega,?_⟩
   rw[hS2.out]
   refine wk_i ?_ ?_<;>simp only[zw,seval,reduceIte,reduceCtorEq]
  ·repeat'(first|(simp -implicitDefEqProofs only[*,List.getElem?_map,Option.map_some,zr,seval,reduceIte,reduceCtorEq])|(apply zk<;>intro hc)|(refine zp ?_)|(refine zd ?_)|(refine cP (hh) ?_)|(refine cD (hh) ?_)|(refine cF (hh) ?_)|(refine cO (hh) ?_)|fail)
   refine⟨s+1,hlt,by omega,?_⟩
   rw[hS2.out]
   refine wk_i ?_ ?_<;>simp only[zw,seval,reduceIte,reduceCtorEq]
 ·obtain rfl:s=bl.length:=by omega
  have h2:=lt_f hge
  have h3:decide (stayTo bl at_ bl.length > most)=false:=dcF (by omega)
  have h5:decide (most<stayTo bl at_ bl.length)=false:=dcF (by omega)
  have hg0:goneTo bl (leavV bl at_) 0=bl:=goneTo_0
  clear hn hge
  simp only at hrow
  generalize hLL:leavV bl at_=L at*
  repeat'(first|(simp -implicitDefEqProofs only[*,zr,seval,reduceIte,reduceCtorEq])|(apply zk<;>intro hc)|(refine zp ?_)|(refine zd ?_)|fail)
  refine callG rfl hrow rfl ?_ (by simp [RS.all,RC.all,FV.plain,digsB]) (by first|exact free_mk rfl|exact free_mk (by simp)|(repeat (first|exact free_0|exact free_mk rfl|exact free_mk (by simp)|refine free_upd rfl ?_|refine free_kill ?_))) ?_
  ·exact⟨fz_pc rfl rfl rfl,fz_f,trivial⟩
  repeat'(first|(simp -implicitDefEqProofs only[*,zr,seval,reduceIte,reduceCtorEq])|(apply zk<;>intro hc)|(refine zp ?_)|(refine zd ?_)|fail)
  have hdl:(digsB L).length=L.length:=by unfold digsB;exact List.length_map _
  have hda:∀ (s:Nat) (x:Blob),L[s]? = some x→(((digsB L).map FV.str).map AV.f)[s]? = some (.f (.str x.1)):=fun s x h=>by unfold digsB;rw[List.getElem?_map,List.getElem?_map,List.getElem?_map,h];rfl
  have hDA:=hide hda
  clear h2 h3 h5 hrow hda
  refine ax_loopW (S:=Nat) 76 [0,1,11] [46] (fun s=>[(10,.sl 74 1 1 0 s),(12,.f (.int .i64 s))]) (fun s=>[(74,1,AObj.cells (((digsB (L.take s)).map FV.str).map AV.f)),(80000,1,AObj.cells ((rowF fBlob (goneTo bl L s)).map .f)),(81000,1,AObj.cells ((rowF fEntry en).map .f)),(100001,1,AObj.cells [.f (.int .i64 room),.f (.int .i64 lease),.sl 80000 1 5 0 (goneTo bl L s).length,.sl 81000 1 3 0 en.length])]) (fun s=>s≤L.length∧∀ m,m<s→0<(sumSz bl - most) - sumSz (L.take m)) (fun s=>L.length - s) (0) [74] [] ?_ rfl ?_ fun s hs=> ?_
  ·exact⟨Nat.zero_le _,fun m h=>absurd h (by omega)⟩
  ·refine wk_i ?_ ?_<;>simp only[List.take_zero,digsB,hg0,zw,seval,reduceIte,reduceCtorEq]
  simp only[sws_n,swh_n]
  obtain⟨hsl,hall⟩:=hs
  refine zs ?_
  rcases Nat.lt_or_ge s L.length with hlt|hge
  ·obtain⟨x,hx⟩:=get_some hlt
   have h4:=inc64 hlt (by omega)
   have h2:=lt_t hlt
   have hda:=hDA.out s x hx
   have hdr:=hDR.out s x hx
   have hH:=hide hall
   clear hall
   repeat'(first|(simp -implicitDefEqProofs only[*,zr,seval,reduceIte,reduceCtorEq])|(apply zk<;>intro hc)|(refine zp ?_)|(refine zd ?_)|fail)
   refine callF rfl (hBY.out s) rfl ?_ (by simp [RS.all,RC.all,FV.plain]) (by first|exact free_mk rfl|exact free_mk (by simp)|(repeat (first|exact free_0|exact free_mk rfl|exact free_mk (by simp)|refine free_upd rfl ?_|refine free_kill ?_))) ?_
   ·show SlotsOk _ _ _ [.sl 80000 1 5 0 (goneTo bl L s).length] [.f (.fr 5 ((goneTo bl L s).map fBlob))]
    rw[so_cons,so_nil]
    exact⟨so_row0 (enc:=fBlob) (fun _=>rfl) rfl rfl rfl,trivial⟩
   by_cases hbig:most<sumSz bl - sumSz (L.take s)
   ·have d1:decide (sumSz bl - sumSz (L.take s) > most)=true:=dcT hbig
    have d2:decide (most<sumSz bl - sumSz (L.take s))=true:=dcT hbig
    have hs2:digsB (L.take (s+1))=digsB (L.take s)++ [x.1]:=by unfold digsB;rw[List.take_add_one,hx,List.map_append];rfl
    have h8:((s+1)*16≤140737488355328)=True:=by rw[eq_iff_iff,iff_true];omega
    have hlen:(digsB (L.take s)).length=s:=by unfold digsB;rw[List.length_map,List.length_take];omega
    have hall2:∀ m,m<s+1→0<(sumSz bl - most) - sumSz (L.take m):=fun m hm=>by
     rcases Nat.lt_succ_iff_lt_or_eq.1 hm with h|rfl
     ·exact hH.out m h
     ·omega
    have hA2:=hide hall2
    generalize hm:digsB (L.take s)=mm at hs2 hlen ⊢
    clear hall2 hbig hx
    replace hdr:=hide hdr
    repeat'(first|(simp -implicitDefEqProofs only[*,zr,seval,reduceIte,reduceCtorEq])|(apply zk<;>intro hc)|(refine zp ?_)|(refine zd ?_)|fail)
    refine callPm rfl hdr.out rfl 100001 1 [.f (.int .i64 room),.f (.int .i64 lease),.sl 80000 1 5 0 (goneTo bl L s).length,.sl 81000 1 3 0 en.length] [] [.f (.str x.1)] rfl rfl ⟨rfl,rfl,.inr ⟨_,_,rfl,rfl,by rw[row_len (sz:=5) (fun _=>rfl)];exact Nat.le_refl _⟩,.inr ⟨_,_,rfl,rfl,by rw[row_len (sz:=3) (fun _=>rfl)];exact Nat.le_refl _⟩,rfl⟩ rfl (by simp [idsC,idsS]) (by simp [idsC,idsS]) (LeL.refl _) rfl (by first|exact free_mk rfl|exact free_mk (by simp)|(repeat (first|exact free_0|exact free_mk rfl|exact free_mk (by simp)|refine free_upd rfl ?_|refine free_kill ?_))) ?_
    repeat'(first|(simp -implicitDefEqProofs only[*,zr,seval,reduceIte,reduceCtorEq])|(apply zk<;>intro hc)|(refine zp ?_)|(refine zd ?_)|fail)
    refine⟨s+1,[(67,80000),(1067,81000)],⟨hlt,hA2.out⟩,by omega,rfl,?_⟩
    rw[hs2]
    refine wk_i ?_ ?_<;>simp only[List.length_append,zw,seval,reduceIte,reduceCtorEq]
    rw[show(mm.map FV.str).map AV.f++ [AV.f (FV.str x.1)]=((mm++ [x.1]).map FV.str).map AV.f by simp,tl_fs,tl_fs]
    exact SlotsOk.fs rfl
   ·have d1:decide (sumSz bl - sumSz (L.take s) > most)=false:=dcF (by omega)
    have d2:decide (most<sumSz bl - sumSz (L.take s))=false:=dcF (by omega)
    obtain⟨hk1,hk2⟩:=hKEEP.out s (cutN_of L _ s hsl hH.out (fun _=>by omega))
    have hdl3:(digsB (L.take s)).length=s:=by unfold digsB;rw[List.length_map,List.length_take];omega
    have hK1:=hide hk1
    have hK2:=hide hk2
    have hK3:=hide hdl3
    clear hk1 hk2 hdl3 hbig
    repeat'(first|(simp -implicitDefEqProofs only[*,zr,seval,reduceIte,reduceCtorEq])|(apply zk<;>intro hc)|(refine zp ?_)|(refine zd ?_)|fail)
    have hk1:=hK1.out
    have hk2:=hK2.out
    have hdl3:=hK3.out
    exact⟨[.sl 74 1 1 0 s,.f (.bool true)],[.f (.int .i64 room),.f (.int .i64 lease),.sl 80000 1 5 0 (goneTo bl L s).length,.sl 81000 1 3 0 en.length],rfl,rfl,⟨rfl,rfl,.inr ⟨80000,1,by rw[hk1],by rw[hk1];rfl,by rw[hk1,row_len (sz:=5) (fun _=>rfl)];exact Nat.le_refl _⟩,.inr ⟨81000,1,rfl,rfl,by rw[row_len (sz:=3) (fun _=>rfl)];exact Nat.le_refl _⟩,rfl⟩,⟨.inr ⟨74,1,by rw[hk2,hdl3],by rw[hk2];rfl,by rw[hk2,List.length_map];omega⟩,rfl,rfl⟩,by simp [idsC,idsS],by simp [idsC,idsS]⟩
  ·have h2:=lt_f hge
   have heq:s=L.length:=by omega
   obtain⟨hk1,hk2⟩:=hKEEP.out s (cutN_of L _ s hsl hall (fun h=>by omega))
   have hdl3:(digsB (L.take s)).length=s:=by unfold digsB;rw[List.length_map,List.length_take];omega
   have hK1:=hide hk1
   have hK2:=hide hk2
   have hK3:=hide hdl3
   clear hk1 hk2 hdl3 heq hge
   repeat'(first|(simp -implicitDefEqProofs only[*,zr,seval,reduceIte,reduceCtorEq])|(apply zk<;>intro hc)|(refine zp ?_)|(refine zd ?_)|fail)
   have hk1:=hK1.out
   have hk2:=hK2.out
   have hdl3:=hK3.out
   exact⟨[.sl 74 1 1 0 s,.f (.bool true)],[.f (.int .i64 room),.f (.int .i64 lease),.sl 80000 1 5 0 (goneTo bl L s).length,.sl 81000 1 3 0 en.length],rfl,rfl,⟨rfl,rfl,.inr ⟨80000,1,by rw[hk1],by rw[hk1];rfl,by rw[hk1,row_len (sz:=5) (fun _=>rfl)];exact Nat.le_refl _⟩,.inr ⟨81000,1,rfl,rfl,by rw[row_len (sz:=3) (fun _=>rfl)];exact Nat.le_refl _⟩,rfl⟩,⟨.inr ⟨74,1,by rw[hk2,hdl3],by rw[hk2];rfl,by rw[hk2,List.length_map];omega⟩,rfl,rfl⟩,by simp [idsC,idsS],by simp [idsC,idsS]⟩
end Go.Proofs.YtfajjcmagngfiaaGreatDoor
namespace Go.Proofs.YtfajjcmagngfiaaGreatDoor
open Go.RowKit Go.Shelf
set_option linter.unusedVariables false
set_option linter.unusedSimpArgs false
set_option maxRecDepth 100000

theorem entryR_f (c:Cache) (t:ByteArray) (hl:(c.2.2.2.length:Int)≤9223372036854775807):FRet Tryz.prog 76 [.f (pCache c),.f (.str t)] [.c (.v (.int .i64 (firstK (fun b:Entry=>b.1) c.2.2.2 t)))]:=by
 obtain⟨room,lease,bl,en⟩:=c
 simp only at hl ⊢
 refine FCall.of_ax low_ref7_entry ?_
 dsimp only[jm,ji,jf,jl,jL,jn,je,jx,jT,jC,jB,jq,jt,ju,jA,km,kf,kl,kn,kx,l_ref7_entry,pCache]
 refine zs ?_
 repeat'(first|(simp -implicitDefEqProofs only[*,frBlobs,frEntries,zr,seval,reduceIte,reduceCtorEq])|(apply zk<;>intro hc)|(refine zp ?_)|(refine zd ?_)|fail)
 refine ax_loopU (S:=Nat) 26 [0,1] [] (fun s=>[(5,.f (.int .i64 s))]) (fun s=>[]) (fun s=>s≤en.length∧∀ (m:Nat) y,m<s→en[m]? = some y→y.1≠t) (fun s=>en.length - s) (0) [] ?_ ?_ fun s hs=> ?_
 ·exact⟨Nat.zero_le _,fun m y h=>absurd h (by omega)⟩
 ·refine wk_i ?_ ?_<;>simp only[zw,seval,reduceIte,reduceCtorEq]
 obtain⟨hi,hall⟩:=hs
 refine zs ?_
 rcases Nat.lt_or_ge s en.length with hlt|hge
 ·obtain⟨x,hx⟩:=get_some hlt
  have h4:=inc64 hlt hl
  have h2:=lt_t hlt
  obtain⟨xd,xs,xu⟩:=x
  have hf:=hide hall
  clear hall
  repeat'(first|(simp -implicitDefEqProofs only[*,List.getElem?_map,Option.map_some,fEntry,frStrs,zr,seval,reduceIte,reduceCtorEq])|(apply zk<;>intro hc)|(refine zp ?_)|(refine zd ?_)|fail)
  ·exact ret_ve (by rw[firstK_hit hf.out hx (of_decide_eq_true hc)])
  ·refine⟨s+1,⟨hlt,fun m y hm hy=> ?_⟩,by omega,?_⟩
   ·rcases Nat.lt_succ_iff_lt_or_eq.1 hm with h1|rfl
    ·exact hf.out m y h1 hy
    ·rw[hx]at hy;obtain rfl:=Option.some.inj hy;exact of_decide_eq_false hc
   ·refine wk_i ?_ ?_<;>simp only[zw,seval,reduceIte,reduceCtorEq]
 ·obtain rfl:s=en.length:=by omega
  have h2:=lt_f hge
  have h3:firstK (fun b:Entry=>b.1) en t = -1:=firstK_none fun m y hm=>hall m y (List.getElem?_eq_some_iff.1 hm).1 hm
  clear hall
  repeat'(first|(simp -implicitDefEqProofs only[*,zr,seval,reduceIte,reduceCtorEq])|(apply zk<;>intro hc)|(refine zp ?_)|(refine zd ?_)|fail)
  exact ret_v
theorem firstK_has {α : Type}{key : α→ByteArray}{l:List α}{t:ByteArray}(h:hasK key l t=true):∃ (i:Nat) (x : α),firstK key l t=(i:Int)∧l[i]? = some x∧key x=t:=by
 obtain⟨x,hx,he⟩:=List.any_eq_true.1 h
 cases hf:l.findIdx? (fun x=>decide (key x=t))with
 | none=>rw[List.findIdx?_eq_none_iff]at hf;have h1:=hf x hx;rw[he]at h1;cases h1
 | some i=>
  obtain⟨h1,h2,h3⟩:=List.findIdx?_eq_some_iff_getElem.1 hf
  exact⟨i,l[i],by rw[firstK,hf],List.getElem?_eq_getElem h1,by simpa using h2⟩
theorem firstK_hasnt {α : Type}{key : α→ByteArray}{l:List α}{t:ByteArray}(h:hasK key l t=false):firstK key l t = -1:=firstK_none fun m y hm he=>by
 have h1:=List.any_eq_false.1 h y (List.mem_of_getElem? hm)
 simp [he]at h1
end Go.Proofs.YtfajjcmagngfiaaGreatDoor
