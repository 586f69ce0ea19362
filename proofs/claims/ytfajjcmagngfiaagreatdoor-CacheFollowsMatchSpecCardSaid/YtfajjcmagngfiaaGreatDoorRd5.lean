/-
  The reference's store. No statement of the seat is proved here; no conditions.
-/
import Derived.Test.YtfajjcmagngfiaaGreatDoorRd4
namespace Go.Proofs.YtfajjcmagngfiaaGreatDoor
open Go.RowKit Go.Shelf
set_option linter.unusedVariables false
set_option linter.unusedSimpArgs false
set_option maxRecDepth 100000

def StoreF (room lease:Int) (bl:List Blob) (en:List Entry) (e:Ev) (r:List Blob × List Entry × Bool × RC):Prop:=
 FRetP Tryz.prog 56 [.v (.int .i64 room),.v (.int .i64 lease),.own 5 bl.length (rowF fBlob bl),.own 3 en.length (rowF fEntry en)] [] [aEv e]
   [.v (.int .i64 room),.v (.int .i64 lease),.own 5 r.1.length (rowF fBlob r.1),.own 3 r.2.1.length (rowF fEntry r.2.1)] [rAnsM r.2.2.1 r.2.2.2 (.v .nil)]
theorem store_mis (room lease:Int) (bl:List Blob) (en:List Entry) (e:Ev) (hb:bl.length≤1000000) (hd:e.2.2.2.1.length≤1000000) (hm:missingOf bl e.2.2.2.1≠[]):StoreF room lease bl en e (bl,en,false,rcS (missingOf bl e.2.2.2.1)):=by
 obtain⟨kind,at_,dg,ds,key,size⟩:=e
 dsimp only at hd hm ⊢
 have hM:=missingR_f (room,lease,bl,en) ds (by show(bl.length:Int)≤_;omega) hd
 have hpos:0<(missingOf bl ds).length:=by
  rcases Nat.eq_zero_or_pos (missingOf bl ds).length with h|h
  ·exact absurd (List.eq_nil_of_length_eq_zero h) hm
  ·exact h
 dsimp only at hM
 generalize missingOf bl ds=M at*
 have dm:decide ((M.length:Int) > 0)=true:=dcT (by omega)
 have dm2:decide ((0:Int)<(M.length:Int))=true:=dcT (by omega)
 clear hm hpos
 refine FCall.of_ax low_ref7_store ?_
 dsimp only[jm,ji,jf,jl,jL,jn,je,jx,jT,jC,jB,jq,jt,ju,jA,km,kf,kl,kn,kx,l_ref7_store,aEv,frStrs]at hM ⊢
 refine zs ?_
 repeat'(first|(simp -implicitDefEqProofs only[*,zr,seval,reduceIte,reduceCtorEq])|(apply zk<;>intro hc)|(refine zp ?_)|(refine zd ?_)|fail)
 refine gG hM ⟨fz_pc rfl rfl rfl,fz_f,trivial⟩ ?_
 repeat'(first|(simp -implicitDefEqProofs only[*,addFp_wr,zr,seval,reduceIte,reduceCtorEq])|(apply zk<;>intro hc)|(refine zp ?_)|(refine zd ?_)|fail)
 exact end_mi rfl rfl rfl (lenB rfl) (lenE rfl) rfl
theorem insE_del {en:List Entry}{key:ByteArray}{y x:Entry}(hr:Rising (fun b:Entry=>b.1) en) (hy:en[eIdx en key]? = some y) (hk:y.1=key) (hx:x.1=key):eIdx (delE en (eIdx en key)) key=eIdx en key∧insE (delE en (eIdx en key)) x=en.set (eIdx en key) x:=by
 generalize hi:eIdx en key=i at*
 have hlt:=(List.getElem?_eq_some_iff.1 hy).1
 have hl:(delE en i).length=en.length - 1:=by unfold delE;rw[List.length_append,List.length_take,List.length_drop];omega
 have g1:∀ m,m<i→(delE en i)[m]? = en[m]?:=fun m hm=>by
  unfold delE;rw[List.getElem?_append_left (by rw[List.length_take];omega),List.getElem?_take_of_lt hm]
 have g2:∀ m,i≤m→(delE en i)[m]? = en[m+1]?:=fun m hm=>by
  unfold delE;rw[List.getElem?_append_right (by rw[List.length_take];omega),List.length_take,Nat.min_eq_left (by omega),List.getElem?_drop];congr 1;omega
 have hR:Rising (fun b:Entry=>b.1) (delE en i):=fun a b u v hab hu hv=>by
  rcases Nat.lt_or_ge a i with ha|ha
  ·rw[g1 a ha]at hu
   rcases Nat.lt_or_ge b i with hb|hb
   ·rw[g1 b hb]at hv;exact hr a b u v hab hu hv
   ·rw[g2 b hb]at hv;exact hr a (b+1) u v (by omega) hu hv
  ·rw[g2 a ha]at hu;rw[g2 b (by omega)]at hv;exact hr (a+1) (b+1) u v (by omega) hu hv
 have hI:eIdx (delE en i) key=i:=by
  refine bs_lin2 (key:=fun b:Entry=>b.1) hR (by omega) (fun m z hm hz=> ?_) ?_
  ·rw[g1 m hm]at hz;rw[← hk];exact hr m i z y hm hz hy
  ·rcases Nat.lt_or_ge i (delE en i).length with h|h
   ·obtain⟨z,hz⟩:=get_some h
    refine .inr ⟨z,hz,?_⟩
    rw[g2 i (Nat.le_refl _)]at hz
    have:=hr i (i+1) y z (by omega) hy hz
    rw[← hk];exact strLt_asymm this
   ·exact .inl (by omega)
 refine⟨hI,?_⟩
 unfold insE
 rw[hx,hI]
 have e1:(delE en i).take i=en.take i:=by unfold delE;rw[List.take_append_of_le_length (by rw[List.length_take];omega),List.take_take,Nat.min_self]
 have e2:(delE en i).drop i=en.drop (i+1):=by unfold delE;rw[List.drop_append,List.drop_of_length_le (by rw[List.length_take];omega),List.length_take,Nat.min_eq_left (by omega),Nat.sub_self,List.drop_zero,List.nil_append]
 rw[e1,e2,List.set_eq_take_append_cons_drop,if_pos hlt]
theorem delE_rise {en:List Entry}{i:Nat}(hr:Rising (fun b:Entry=>b.1) en):Rising (fun b:Entry=>b.1) (delE en i):=fun a b u v hab hu hv=>by
 have hsub:List.Sublist (delE en i) en:=by
  unfold delE
  have h1:List.Sublist (en.take i++en.drop (i+1)) (en.take i++en.drop i):=List.Sublist.append (List.Sublist.refl _) (by rw[← List.drop_drop];exact List.drop_sublist _ _)
  rwa [List.take_append_drop]at h1
 have h1:en.Pairwise fun a b=>strLt a.1 b.1=true:=List.pairwise_iff_getElem.2 fun i j hi hj hij=>hr i j _ _ hij (List.getElem?_eq_getElem hi) (List.getElem?_eq_getElem hj)
 have h2:=List.pairwise_iff_getElem.1 (h1.sublist hsub)
 obtain⟨ha,rfl⟩:=List.getElem?_eq_some_iff.1 hu
 obtain⟨hb,rfl⟩:=List.getElem?_eq_some_iff.1 hv
 exact h2 a b ha hb hab
set_option maxHeartbeats 16000000 in
theorem store_yes (room lease:Int) (bl:List Blob) (en:List Entry) (e:Ev) (hb:bl.length≤1000000) (hr:Rising (fun b:Blob=>b.1) bl) (he:en.length≤1000) (hre:Rising (fun b:Entry=>b.1) en) (hd:e.2.2.2.1.length≤1000000) (hm:missingOf bl e.2.2.2.1 = []) :
  StoreF room lease bl en e (touchL lease e.2.1 true false bl e.2.2.2.1,stE en (e.2.2.2.2.1,e.2.2.2.1,e.2.1),true,.v .nil):=by
 obtain⟨kind,at_,dg,ds,key,size⟩:=e
 dsimp only at hd hm ⊢
 have hM:=missingR_f (room,lease,bl,en) ds (by show(bl.length:Int)≤_;omega) hd
 have hhas:=missing_zero.1 (by rw[hm];rfl:(missingOf bl ds).length=0)
 rw[show missingOf (room,lease,bl,en).2.2.1 ds = []from hm]at hM
 have dm:decide ((0:Int) > 0)=false:=rfl
 have dm2:decide (((0:Nat):Int) > 0)=false:=rfl
 have dm3:decide ((0:Int)<((0:Nat):Int))=false:=rfl
 have hB:=fun (B:List Blob) (d:ByteArray) (h:B.length=bl.length)=>blobR_f (room,lease,B,en) d (by show(B.length:Int)≤_;omega)
 have hE:=fun (B:List Blob)=>entryR_f (room,lease,B,en) key (by show(en.length:Int)≤_;omega)
 unfold StoreF
 dsimp only
 have hS:∀ y,en[eIdx en key]? = some y→hasE en key=true→stE en (key,ds,at_)=en.set (eIdx en key) (key,ds,at_):=fun y hy hh=>by
  unfold stE
  rw[show((key,ds,at_):Entry).1=key from rfl,if_pos hh]
 have hS2:hasE en key=false→stE en (key,ds,at_)=if 1000≤en.length then insE (delE en (oldI en en.length)) (key,ds,at_)else insE en (key,ds,at_):=fun hh=>by
  unfold stE
  rw[show((key,ds,at_):Entry).1=key from rfl,if_neg (by rw[hh];decide)]
 obtain⟨E2,hE2⟩:∃ E2,stE en (key,ds,at_)=E2:=⟨_,rfl⟩
 rw[hE2]at hS hS2 ⊢
 clear hm hE2
 replace hB:=hide hB
 replace hE:=hide hE
 replace hM:=hide hM
 replace hhas:=hide hhas
 replace hS:=hide hS
 replace hS2:=hide hS2
 have hR0:=hide hr
 have hR1:=hide hre
 clear hr hre
 refine FCall.of_ax low_ref7_store ?_
 dsimp only[jm,ji,jf,jl,jL,jn,je,jx,jT,jC,jB,jq,jt,ju,jA,km,kf,kl,kn,kx,l_ref7_store,aEv,frStrs]
 refine zs ?_
 repeat'(first|(simp -implicitDefEqProofs only[*,zr,seval,reduceIte,reduceCtorEq])|(apply zk<;>intro hc)|(refine zp ?_)|(refine zd ?_)|fail)
 refine gG hM.out ⟨fz_pc rfl rfl rfl,fz_f,trivial⟩ ?_
 clear hM
 repeat'(first|(simp -implicitDefEqProofs only[*,addFp_wr,wrL_3,zr,seval,reduceIte,reduceCtorEq])|(apply zk<;>intro hc)|(refine zp ?_)|(refine zd ?_)|fail)
 refine ax_loopU (S:=Nat) 146 [0,3,4] [3,4,81000,100001] (fun s=>[(6,.f (.int .i64 s))]) (fun s=>[(80000,1,AObj.cells ((rowF fBlob (touchL lease at_ true false bl (ds.take s))).map AV.f))]) (fun s=>s≤ds.length) (fun s=>ds.length - s) (0) [] ?_ ?_ fun s hs=> ?_
 ·exact Nat.zero_le _
 ·refine wk_i ?_ ?_<;>simp only[List.take_zero,show touchL lease at_ true false bl []=bl from rfl,zw,seval,reduceIte,reduceCtorEq]
 refine zs ?_
 rcases Nat.lt_or_ge s ds.length with hlt|hge
 ·obtain⟨x,hx⟩:=get_some hlt
  have h4:=inc64 hlt (by omega)
  have h2:=lt_t hlt
  have hs2:touchL lease at_ true false bl (ds.take (s+1))=touch1 lease at_ true false (touchL lease at_ true false bl (ds.take s)) x:=by rw[List.take_add_one,hx];exact touchL_snoc
  have hl2:(touchL lease at_ true false bl (ds.take s)).length=bl.length:=touchL_len
  have hR:=touchL_rise (lease:=lease) (at_:=at_) (uses:=true) (holds:=false) (ds:=ds.take s) hR0.out
  have hh:hasB (touchL lease at_ true false bl (ds.take s)) x=true:=by rw[hasB_ks touchL_ks];exact hhas.out x (List.mem_of_getElem? hx)
  generalize touchL lease at_ true false bl (ds.take s)=B at*
  rw[← hl2]
  have hBB:=hB.out B x hl2
  have hb2:B.length≤1000000:=by omega
  replace hl2:=hide hl2
  have hS3:=hide hs2
  obtain⟨y,hy,hyd⟩:=hasB_at hR hh
  rw[show firstK (fun b:Blob=>b.1) (room,lease,B,en).2.2.1 x=(bIdx B x:Nat)from firstB hR hh]at hBB
  have hx1:=touch1_at (lease:=lease) (at_:=at_) (u:=true) (v:=false) hy hh
  clear hs2 hB hb hR hh hhas
  generalize bIdx B x=j at*
  have hlt3:=(List.getElem?_eq_some_iff.1 hy).1
  have hL:=lt_t hlt3
  have q1:(rowF fBlob B).length=B.length*5:=row_len (sz:=5) (fun _=>rfl)
  have p2:(j*5+2+1≤B.length*5)=True:=by rw[eq_iff_iff,iff_true];omega
  have e1:=row_set1 (enc:=fBlob) (sz:=5) (j:=2) (y:=tchB lease at_ true false y) (v:= .int .i64 at_) (fun _=>rfl) hy (by omega) rfl
  rw[splice_1,← hx1]at e1
  replace hyd:=hide hyd
  replace hx1:=hide hx1
  clear hy
  repeat'(first|(simp -implicitDefEqProofs only[*,List.getElem?_map,Option.map_some,addFp_wr,wrL_3,zr,seval,reduceIte,reduceCtorEq])|(apply zk<;>intro hc)|(refine zp ?_)|(refine zd ?_)|fail)
  refine gDB (tl:=[.str x]) hBB rfl rfl ?_
  repeat'(first|(simp -implicitDefEqProofs only[*,addFp_wr,wrL_3,zr,seval,reduceIte,reduceCtorEq])|(apply zk<;>intro hc)|(refine zp ?_)|(refine zd ?_)|fail)
  refine⟨s+1,hlt,by omega,?_⟩
  rw[hS3.out]
  refine wk_i ?_ ?_<;>simp only[zw,seval,reduceIte,reduceCtorEq]
 obtain rfl:s=ds.length:=by omega
 have h2:=lt_f hge
 have h3:=List.take_length (l:=ds)
 have hl2:(touchL lease at_ true false bl ds).length=bl.length:=touchL_len
 rw[h3]
 generalize touchL lease at_ true false bl ds=B at*
 rw[← hl2]
 replace hl2:=hide hl2
 clear hB hhas hb hR0
 have hEE:=hE.out B
 cases hh:hasE en key
 case true=>
  obtain⟨y,hy,hyd,hf⟩:=firstE hR1.out hh
  rw[show firstK (fun b:Entry=>b.1) (room,lease,B,en).2.2.2 key=(eIdx en key:Nat)from hf]at hEE
  have hq:=(insE_del (x:=(key,ds,at_)) hR1.out hy hyd rfl).2
  rw[← hS.out y hy hh]at hq
  have hRE:=delE_rise (i:=eIdx en key) hR1.out
  have hlt4:=(List.getElem?_eq_some_iff.1 hy).1
  have hRm:=removeR_f room lease B en (eIdx en key) (by omega) hlt4
  have hdl:(delE en (eIdx en key)).length=en.length - 1:=by unfold delE;rw[List.length_append,List.length_take,List.length_drop];omega
  clear hS hS2 hE hf hh hR1 hy hyd
  generalize eIdx en key=i at*
  generalize delE en i=E at*
  have dk:decide ((i:Int)≥0)=true:=dcT (by omega)
  have dk2:decide ((0:Int)≤(i:Int))=true:=dcT (by omega)
  have dl:decide ((E.length:Int)=1000)=false:=dcF (by omega)
  have hF:=hide hq
  replace hRE:=hide hRE
  have hEl:E.length≤1000:=by omega
  clear hq
  replace hdl:=hide hdl
  replace hRm:=hide hRm
  repeat'(first|(simp -implicitDefEqProofs only[*,addFp_wr,zr,seval,reduceIte,reduceCtorEq])|(apply zk<;>intro hc)|(refine zp ?_)|(refine zd ?_)|fail)
  refine gG hEE ⟨fz_pc rfl rfl rfl,fz_f,trivial⟩ ?_
  clear hEE
  repeat'(first|(simp -implicitDefEqProofs only[*,addFp_wr,zr,seval,reduceIte,reduceCtorEq])|(apply zk<;>intro hc)|(refine zp ?_)|(refine zd ?_)|fail)
  refine gP hRm.out 100001 1 [.f (.int .i64 room),.f (.int .i64 lease),.sl 80000 1 5 0 B.length,.sl 81000 1 3 0 en.length] [] [.f (.int .i64 (i:Nat))] ?_
  clear hRm
  repeat'(first|(simp -implicitDefEqProofs only[*,addFp_wr,zr,seval,reduceIte,reduceCtorEq])|(apply zk<;>intro hc)|(refine zp ?_)|(refine zd ?_)|fail)
  clear dk dk2 dl hdl h2 h3 hge hlt4
  refine ax_loopU (S:=Nat) 146 [0,3,4] [3,4,52,1052,100001] (fun s=>[(10,.f (.int .i64 s))]) (fun s=>[]) (fun s=>s≤E.length∧∀ (m:Nat) z,m<s→E[m]? = some z→strLt z.1 key=true) (fun s=>E.length - s) (0) [] ?_ ?_ fun s hs=> ?_
  ·exact⟨Nat.zero_le _,fun m z h=>absurd h (by omega)⟩
  ·refine wk_i ?_ ?_<;>simp only[zw,seval,reduceIte,reduceCtorEq]
  obtain⟨hk1,hk2⟩:=hs
  have hKs:=hide hk2
  clear hk2
  refine srun_sound 45 _ _ _ _ ?_
  have q0:(rowF fEntry E).length=E.length*3:=row_len (sz:=3) (fun _=>rfl)
  have hend:(s<E.length∧∃ z,E[s]? = some z∧strLt z.1 key=true)∨(s<E.length∧∃ z,E[s]? = some z∧strLt z.1 key=false)∨s=E.length:=by
   rcases Nat.lt_or_ge s E.length with h|h
   ·obtain⟨z,hz⟩:=get_some h
    cases hl:strLt z.1 key
    ·exact .inr (.inl ⟨h,z,hz,hl⟩)
    ·exact .inl ⟨h,z,hz,hl⟩
   ·exact .inr (.inr (by omega))
  rcases hend with⟨hl2,z,hz,hzl⟩|hend
  ·have h6:=inc64 hl2 (by omega)
   have h5:=lt_t hl2
   have h5i:decide ((s:Int)<(E.length:Int))=true:=dcT (by omega)
   have c0:=row_cell (enc:=fEntry) (sz:=3) (j:=0) (fun _=>rfl) hz (show _=some (FV.str z.1)from rfl)
   have p0:(s*3+0+1≤E.length*3)=True:=by rw[eq_iff_iff,iff_true];omega
   have p1:(s*3+1≤E.length*3)=True:=by rw[eq_iff_iff,iff_true];omega
   rw[Nat.add_zero]at c0
   have hn:∀ (m:Nat) w,m<s+1→E[m]? = some w→strLt w.1 key=true:=fun m w hm hw=>by
    rcases Nat.lt_succ_iff_lt_or_eq.1 hm with h1|rfl
    ·exact hKs.out m w h1 hw
    ·rw[hz]at hw;obtain rfl:=Option.some.inj hw;exact hzl
   replace hn:=hide hn
   repeat'(first|(simp -implicitDefEqProofs only[*,addFp_wr,zr,seval,reduceIte,reduceCtorEq])|(apply zk<;>intro hc)|(refine zp ?_)|(refine zd ?_)|fail)
   refine⟨s+1,⟨hl2,hn.out⟩,by omega,?_⟩
   refine wk_i ?_ ?_<;>simp only[zw,seval,reduceIte,reduceCtorEq]
  have hk:=bs_lin2 (key:=fun b:Entry=>b.1) hRE.out hk1 hKs.out (hend.symm.imp (fun h=>h) fun h=>h.2)
  change eIdx E key=s at hk
  obtain⟨k,hkk⟩:∃ k:Nat,k=s:=⟨_,rfl⟩
  have e0:E2=E.take k++(key,ds,at_)::E.drop k:=by rw[← hF.out];unfold insE;rw[show((key,ds,at_):Entry).1=key from rfl,hk,← hkk]
  have e1:rowF fEntry E2=rowF fEntry (E.take k)++(fEntry (key,ds,at_)++rowF fEntry (E.drop k)):=by rw[e0,row_app,row_cons]
  have hil:E2.length=E.length+1:=by rw[e0,List.length_append,List.length_cons,List.length_take,List.length_drop];omega
  have hkl:k≤E.length:=by omega
  obtain⟨T1,hT1⟩:∃ T,List.take (s*3) ((rowF fEntry E).map AV.f)=T:=⟨_,rfl⟩
  obtain⟨T2,hT2⟩:∃ T,List.take ((E.length - s)*3) (List.drop (s*3) ((rowF fEntry E).map AV.f))=T:=⟨_,rfl⟩
  have k1:T1=(rowF fEntry (E.take k)).map AV.f:=by rw[← hT1,← List.map_take,row_take (sz:=3) (fun _=>rfl),hkk]
  have k2:T2=(rowF fEntry (E.drop k)).map AV.f:=by
   rw[← hT2,← List.map_drop,row_drop (sz:=3) (fun _=>rfl),List.take_of_length_le,hkk]
   rw[List.length_map,row_len (sz:=3) (fun _=>rfl),List.length_drop];exact Nat.le_refl _
  have k3:T1.length=s*3:=by rw[k1,List.length_map,row_len (sz:=3) (fun _=>rfl),List.length_take];omega
  have k5:T2.length=(E.length - s)*3:=by rw[k2,List.length_map,row_len (sz:=3) (fun _=>rfl),List.length_drop];omega
  have g1:((s:Int)≤(E.length:Int))=True:=by rw[eq_iff_iff,iff_true];omega
  have g4:((E.length:Int)≤(E.length:Int))=True:=by rw[eq_iff_iff,iff_true];omega
  have g5:(s*3≤E.length*3)=True:=by rw[eq_iff_iff,iff_true];omega
  have g6:((s+(E.length - s))*3≤E.length*3)=True:=by rw[eq_iff_iff,iff_true];omega
  have g7:(s*48≤140737488355328)=True:=by rw[eq_iff_iff,iff_true];omega
  have g8:((s+1)*48≤140737488355328)=True:=by rw[eq_iff_iff,iff_true];omega
  have g9:s+1+(E.length - s)=E.length+1:=by omega
  have g10:((E.length+1)*48≤140737488355328)=True:=by rw[eq_iff_iff,iff_true];omega
  have g11:s*3+3=(s+1)*3:=by omega
  have h16:(ds.length*16≤140737488355328)=True:=by rw[eq_iff_iff,iff_true];omega
  have kk:T1++ [AV.f (FV.str key),AV.f (FV.fr 1 (ds.map fun s=>[.str s])),AV.f (FV.int .i64 at_)]++T2=(rowF fEntry E2).map AV.f:=by rw[k1,k2,e1,List.map_append,List.map_append,List.append_assoc];rfl
  clear k1 k2 e0 e1 hk hkl hkk
  replace kk:=hide kk
  replace hil:=hide hil
  rcases hend with⟨hl2,z,hz,hzl⟩|rfl
  ·have h5:=lt_t hl2
   have h5i:decide ((s:Int)<(E.length:Int))=true:=dcT (by omega)
   have c0:=row_cell (enc:=fEntry) (sz:=3) (j:=0) (fun _=>rfl) hz (show _=some (FV.str z.1)from rfl)
   have p0:(s*3+0+1≤E.length*3)=True:=by rw[eq_iff_iff,iff_true];omega
   have p1:(s*3+1≤E.length*3)=True:=by rw[eq_iff_iff,iff_true];omega
   rw[Nat.add_zero]at c0
   clear hz
   repeat'(first|(simp -implicitDefEqProofs only[*,addFp_wr,List.length_map,zr,seval,reduceIte,reduceCtorEq])|(apply zk<;>intro hc)|(refine zp ?_)|(refine zd ?_)|fail)
   refine ax_weakA [] (nw:=[]) (n:=146) (el:=[(0,.ptr 100001 1 0),(3,.ptr 3 1 0),(4,.ptr 4 1 0),(10,.f (.int .i64 (s:Nat))),(11,.ptr 11 1 0)]) (hl:=[(52,1,AObj.cells ((rowF fBlob B).map .f)),(1052,1,AObj.cells ((rowF fEntry E).map .f)),(100001,1,AObj.cells [.f (.int .i64 room),.f (.int .i64 lease),.sl 52 1 5 0 B.length,.sl 1052 1 3 0 E.length]),(3,1,AObj.cells [.f (.int .i64 kind),.f (.int .i64 at_),.f (.str dg),.f (.fr 1 (ds.map fun s=>[.str s])),.f (.str key),.f (.int .i64 size)]),(4,1,AObj.cells [.f (.bool false),.f .nil,.f .nil]),(11,1,AObj.cells [.f (.str key),.f (.fr 1 (ds.map fun s=>[.str s])),.f (.int .i64 at_)])]) rfl ?_ ?_
   ·refine wk_i ?_ ?_<;>simp only[so_mf,mapOfH_some,so_ptf,so_cc,so_ff',cellsOf_some,List.drop_zero,List.take_succ_cons,List.take_zero,Nat.zero_add,Nat.le_refl,zw,seval,reduceIte,reduceCtorEq]
    exact so_row0 (enc:=encS) (l:=ds) (fun _=>rfl) rfl rfl rfl
   refine zs ?_
   repeat'(first|(simp -implicitDefEqProofs only[*,addFp_wr,fEntry,List.map_cons,List.map_nil,List.length_map,Nat.sub_zero,List.length_append,List.length_cons,List.length_nil,zr,seval,reduceIte,reduceCtorEq])|(apply zk<;>intro hc)|(refine zp ?_)|(refine zd ?_)|fail)
   rw[hil.out]
   exact end_1 rfl rfl (congrArg some kk.out) (lenB rfl) (lenE hil.out)
  ·have h5:=lt_f (Nat.le_refl E.length)
   have h5i:decide ((E.length:Int)<(E.length:Int))=false:=dcF (by omega)
   repeat'(first|(simp -implicitDefEqProofs only[*,addFp_wr,List.length_map,zr,seval,reduceIte,reduceCtorEq])|(apply zk<;>intro hc)|(refine zp ?_)|(refine zd ?_)|fail)
   refine ax_weakA [] (nw:=[]) (n:=146) (el:=[(0,.ptr 100001 1 0),(3,.ptr 3 1 0),(4,.ptr 4 1 0),(10,.f (.int .i64 (E.length:Nat))),(11,.ptr 11 1 0)]) (hl:=[(52,1,AObj.cells ((rowF fBlob B).map .f)),(1052,1,AObj.cells ((rowF fEntry E).map .f)),(100001,1,AObj.cells [.f (.int .i64 room),.f (.int .i64 lease),.sl 52 1 5 0 B.length,.sl 1052 1 3 0 E.length]),(3,1,AObj.cells [.f (.int .i64 kind),.f (.int .i64 at_),.f (.str dg),.f (.fr 1 (ds.map fun s=>[.str s])),.f (.str key),.f (.int .i64 size)]),(4,1,AObj.cells [.f (.bool false),.f .nil,.f .nil]),(11,1,AObj.cells [.f (.str key),.f (.fr 1 (ds.map fun s=>[.str s])),.f (.int .i64 at_)])]) rfl ?_ ?_
   ·refine wk_i ?_ ?_<;>simp only[so_mf,mapOfH_some,so_ptf,so_cc,so_ff',cellsOf_some,List.drop_zero,List.take_succ_cons,List.take_zero,Nat.zero_add,Nat.le_refl,zw,seval,reduceIte,reduceCtorEq]
    exact so_row0 (enc:=encS) (l:=ds) (fun _=>rfl) rfl rfl rfl
   refine zs ?_
   repeat'(first|(simp -implicitDefEqProofs only[*,addFp_wr,fEntry,List.map_cons,List.map_nil,List.length_map,Nat.sub_zero,List.length_append,List.length_cons,List.length_nil,zr,seval,reduceIte,reduceCtorEq])|(apply zk<;>intro hc)|(refine zp ?_)|(refine zd ?_)|fail)
   rw[hil.out]
   exact end_1 rfl rfl (congrArg some kk.out) (lenB rfl) (lenE hil.out)
 case false=>
  rw[show firstK (fun b:Entry=>b.1) (room,lease,B,en).2.2.2 key = -1 from firstK_hasnt hh]at hEE
  have hq:=hS2.out hh
  clear hS hS2 hE hh
  by_cases hfull:1000≤en.length
  ·rw[if_pos hfull]at hq
   have dl:decide ((en.length:Int)=1000)=true:=dcT (by omega)
   have hRE:=delE_rise (i:=oldI en en.length) hR1.out
   have hlt4:=oldI_lt (en:=en) (by omega) en.length (Nat.le_refl _)
   have hRm:=removeR_f room lease B en (oldI en en.length) (by omega) hlt4
   have hdl:(delE en (oldI en en.length)).length=en.length - 1:=by unfold delE;rw[List.length_append,List.length_take,List.length_drop];omega
   have hOL:=fun s (h:s≤en.length)=>oldI_lt (en:=en) (by omega) s h
   generalize hE':delE en (oldI en en.length)=E at*
   replace hE':=hide hE'
   have hF:=hide hq.symm
   replace hRE:=hide hRE
   replace hRm:=hide hRm
   replace hOL:=hide hOL
   have hEl:E.length≤1000:=by omega
   clear hq
   replace hdl:=hide hdl
   repeat'(first|(simp -implicitDefEqProofs only[*,addFp_wr,zr,seval,reduceIte,reduceCtorEq])|(apply zk<;>intro hc)|(refine zp ?_)|(refine zd ?_)|fail)
   refine gG hEE ⟨fz_pc rfl rfl rfl,fz_f,trivial⟩ ?_
   clear hEE
   repeat'(first|(simp -implicitDefEqProofs only[*,addFp_wr,zr,seval,reduceIte,reduceCtorEq])|(apply zk<;>intro hc)|(refine zp ?_)|(refine zd ?_)|fail)
   clear dl h2 h3 hge
   refine ax_loopU (S:=Nat) 146 [0,3,4] [3,4,80000,81000,100001] (fun s=>[(8,.f (.int .i64 (oldI en s:Nat))),(9,.f (.int .i64 s))]) (fun s=>[]) (fun s=>s≤en.length) (fun s=>en.length - s) (0) [] ?_ ?_ fun s hs=> ?_
   ·exact Nat.zero_le _
   ·refine wk_i ?_ ?_<;>simp only[show oldI en 0=0 from rfl,zw,seval,reduceIte,reduceCtorEq]
   refine zs ?_
   have q0:(rowF fEntry en).length=en.length*3:=row_len (sz:=3) (fun _=>rfl)
   rcases Nat.lt_or_ge s en.length with hlt|hge
   ·obtain⟨x,hx⟩:=get_some hlt
    have ho:=hOL.out s (by omega)
    obtain⟨y,hy⟩:=get_some ho
    have h4:=inc64 hlt (by omega)
    have h2:=lt_t hlt
    have h2o:=lt_t ho
    have hsn:oldI en (s+1)=if x.2.2<y.2.2 then s else oldI en s:=by rw[oldI,hx,hy]
    have cx:=row_cell (enc:=fEntry) (sz:=3) (j:=2) (fun _=>rfl) hx (show _=some (FV.int .i64 x.2.2)from rfl)
    have cy:=row_cell (enc:=fEntry) (sz:=3) (j:=2) (fun _=>rfl) hy (show _=some (FV.int .i64 y.2.2)from rfl)
    have px:(s*3+2+1≤en.length*3)=True:=by rw[eq_iff_iff,iff_true];omega
    have py:(oldI en s*3+2+1≤en.length*3)=True:=by rw[eq_iff_iff,iff_true];omega
    generalize oldI en s=o at*
    replace hsn:=hide hsn
    clear hx hy
    by_cases hc:x.2.2<y.2.2
    ·have dc:decide (x.2.2<y.2.2)=true:=dcT hc
     have hsn2:=hsn.out
     rw[if_pos hc]at hsn2
     replace hsn2:=hide hsn2
     clear hsn hc
     repeat'(first|(simp -implicitDefEqProofs only[*,addFp_wr,zr,seval,reduceIte,reduceCtorEq])|(apply zk<;>intro hc)|(refine zp ?_)|(refine zd ?_)|fail)
     refine⟨s+1,hlt,by omega,?_⟩
     rw[hsn2.out]
     refine wk_i ?_ ?_<;>simp only[zw,seval,reduceIte,reduceCtorEq]
    ·have dc:decide (x.2.2<y.2.2)=false:=dcF hc
     have hsn2:=hsn.out
     rw[if_neg hc]at hsn2
     replace hsn2:=hide hsn2
     clear hsn hc
     repeat'(first|(simp -implicitDefEqProofs only[*,addFp_wr,zr,seval,reduceIte,reduceCtorEq])|(apply zk<;>intro hc)|(refine zp ?_)|(refine zd ?_)|fail)
     refine⟨s+1,hlt,by omega,?_⟩
     rw[hsn2.out]
     refine wk_i ?_ ?_<;>simp only[zw,seval,reduceIte,reduceCtorEq]
   obtain rfl:s=en.length:=by omega
   have h2:=lt_f hge
   generalize oldI en en.length=o at*
   repeat'(first|(simp -implicitDefEqProofs only[*,addFp_wr,zr,seval,reduceIte,reduceCtorEq])|(apply zk<;>intro hc)|(refine zp ?_)|(refine zd ?_)|fail)
   refine gP hRm.out 100001 1 [.f (.int .i64 room),.f (.int .i64 lease),.sl 80000 1 5 0 B.length,.sl 81000 1 3 0 en.length] [] [.f (.int .i64 (o:Nat))] ?_
   clear hRm
   repeat'(first|(simp -implicitDefEqProofs only[*,addFp_wr,zr,seval,reduceIte,reduceCtorEq])|(apply zk<;>intro hc)|(refine zp ?_)|(refine zd ?_)|fail)
   clear h2 hge hdl hlt4 q0 hOL hE' hfull
   refine ax_loopU (S:=Nat) 146 [0,3,4] [3,4,88,1088,100001] (fun s=>[(10,.f (.int .i64 s))]) (fun s=>[]) (fun s=>s≤E.length∧∀ (m:Nat) z,m<s→E[m]? = some z→strLt z.1 key=true) (fun s=>E.length - s) (0) [] ?_ ?_ fun s hs=> ?_
   ·exact⟨Nat.zero_le _,fun m z h=>absurd h (by omega)⟩
   ·refine wk_i ?_ ?_<;>simp only[zw,seval,reduceIte,reduceCtorEq]
   obtain⟨hk1,hk2⟩:=hs
   have hKs:=hide hk2
   clear hk2
   refine srun_sound 45 _ _ _ _ ?_
   have q0:(rowF fEntry E).length=E.length*3:=row_len (sz:=3) (fun _=>rfl)
   have hend:(s<E.length∧∃ z,E[s]? = some z∧strLt z.1 key=true)∨(s<E.length∧∃ z,E[s]? = some z∧strLt z.1 key=false)∨s=E.length:=by
    rcases Nat.lt_or_ge s E.length with h|h
    ·obtain⟨z,hz⟩:=get_some h
     cases hl:strLt z.1 key
     ·exact .inr (.inl ⟨h,z,hz,hl⟩)
     ·exact .inl ⟨h,z,hz,hl⟩
    ·exact .inr (.inr (by omega))
   rcases hend with⟨hl2,z,hz,hzl⟩|hend
   ·have h6:=inc64 hl2 (by omega)
    have h5:=lt_t hl2
    have h5i:decide ((s:Int)<(E.length:Int))=true:=dcT (by omega)
    have c0:=row_cell (enc:=fEntry) (sz:=3) (j:=0) (fun _=>rfl) hz (show _=some (FV.str z.1)from rfl)
    have p0:(s*3+0+1≤E.length*3)=True:=by rw[eq_iff_iff,iff_true];omega
    have p1:(s*3+1≤E.length*3)=True:=by rw[eq_iff_iff,iff_true];omega
    rw[Nat.add_zero]at c0
    have hn:∀ (m:Nat) w,m<s+1→E[m]? = some w→strLt w.1 key=true:=fun m w hm hw=>by
     rcases Nat.lt_succ_iff_lt_or_eq.1 hm with h1|rfl
     ·exact hKs.out m w h1 hw
     ·rw[hz]at hw;obtain rfl:=Option.some.inj hw;exact hzl
    replace hn:=hide hn
    repeat'(first|(simp -implicitDefEqProofs only[*,addFp_wr,zr,seval,reduceIte,reduceCtorEq])|(apply zk<;>intro hc)|(refine zp ?_)|(refine zd ?_)|fail)
    refine⟨s+1,⟨hl2,hn.out⟩,by omega,?_⟩
    refine wk_i ?_ ?_<;>simp only[zw,seval,reduceIte,reduceCtorEq]
   have hk:=bs_lin2 (key:=fun b:Entry=>b.1) hRE.out hk1 hKs.out (hend.symm.imp (fun h=>h) fun h=>h.2)
   change eIdx E key=s at hk
   obtain⟨k,hkk⟩:∃ k:Nat,k=s:=⟨_,rfl⟩
   have e0:E2=E.take k++(key,ds,at_)::E.drop k:=by rw[← hF.out];unfold insE;rw[show((key,ds,at_):Entry).1=key from rfl,hk,← hkk]
   have e1:rowF fEntry E2=rowF fEntry (E.take k)++(fEntry (key,ds,at_)++rowF fEntry (E.drop k)):=by rw[e0,row_app,row_cons]
   have hil:E2.length=E.length+1:=by rw[e0,List.length_append,List.length_cons,List.length_take,List.length_drop];omega
   have hkl:k≤E.length:=by omega
   obtain⟨T1,hT1⟩:∃ T,List.take (s*3) ((rowF fEntry E).map AV.f)=T:=⟨_,rfl⟩
   obtain⟨T2,hT2⟩:∃ T,List.take ((E.length - s)*3) (List.drop (s*3) ((rowF fEntry E).map AV.f))=T:=⟨_,rfl⟩
   have k1:T1=(rowF fEntry (E.take k)).map AV.f:=by rw[← hT1,← List.map_take,row_take (sz:=3) (fun _=>rfl),hkk]
   have k2:T2=(rowF fEntry (E.drop k)).map AV.f:=by
    rw[← hT2,← List.map_drop,row_drop (sz:=3) (fun _=>rfl),List.take_of_length_le,hkk]
    rw[List.length_map,row_len (sz:=3) (fun _=>rfl),List.length_drop];exact Nat.le_refl _
   have k3:T1.length=s*3:=by rw[k1,List.length_map,row_len (sz:=3) (fun _=>rfl),List.length_take];omega
   have k5:T2.length=(E.length - s)*3:=by rw[k2,List.length_map,row_len (sz:=3) (fun _=>rfl),List.length_drop];omega
   have g1:((s:Int)≤(E.length:Int))=True:=by rw[eq_iff_iff,iff_true];omega
   have g4:((E.length:Int)≤(E.length:Int))=True:=by rw[eq_iff_iff,iff_true];omega
   have g5:(s*3≤E.length*3)=True:=by rw[eq_iff_iff,iff_true];omega
   have g6:((s+(E.length - s))*3≤E.length*3)=True:=by rw[eq_iff_iff,iff_true];omega
   have g7:(s*48≤140737488355328)=True:=by rw[eq_iff_iff,iff_true];omega
   have g8:((s+1)*48≤140737488355328)=True:=by rw[eq_iff_iff,iff_true];omega
   have g9:s+1+(E.length - s)=E.length+1:=by omega
   have g10:((E.length+1)*48≤140737488355328)=True:=by rw[eq_iff_iff,iff_true];omega
   have g11:s*3+3=(s+1)*3:=by omega
   have h16:(ds.length*16≤140737488355328)=True:=by rw[eq_iff_iff,iff_true];omega
   have kk:T1++ [AV.f (FV.str key),AV.f (FV.fr 1 (ds.map fun s=>[.str s])),AV.f (FV.int .i64 at_)]++T2=(rowF fEntry E2).map AV.f:=by rw[k1,k2,e1,List.map_append,List.map_append,List.append_assoc];rfl
   clear k1 k2 e0 e1 hk hkl hkk
   replace kk:=hide kk
   replace hil:=hide hil
   rcases hend with⟨hl2,z,hz,hzl⟩|rfl
   ·have h5:=lt_t hl2
    have h5i:decide ((s:Int)<(E.length:Int))=true:=dcT (by omega)
    have c0:=row_cell (enc:=fEntry) (sz:=3) (j:=0) (fun _=>rfl) hz (show _=some (FV.str z.1)from rfl)
    have p0:(s*3+0+1≤E.length*3)=True:=by rw[eq_iff_iff,iff_true];omega
    have p1:(s*3+1≤E.length*3)=True:=by rw[eq_iff_iff,iff_true];omega
    rw[Nat.add_zero]at c0
    clear hz
    repeat'(first|(simp -implicitDefEqProofs only[*,addFp_wr,List.length_map,zr,seval,reduceIte,reduceCtorEq])|(apply zk<;>intro hc)|(refine zp ?_)|(refine zd ?_)|fail)
    refine ax_weakA [] (nw:=[]) (n:=146) (el:=[(0,.ptr 100001 1 0),(3,.ptr 3 1 0),(4,.ptr 4 1 0),(10,.f (.int .i64 (s:Nat))),(11,.ptr 11 1 0)]) (hl:=[(88,1,AObj.cells ((rowF fBlob B).map .f)),(1088,1,AObj.cells ((rowF fEntry E).map .f)),(100001,1,AObj.cells [.f (.int .i64 room),.f (.int .i64 lease),.sl 88 1 5 0 B.length,.sl 1088 1 3 0 E.length]),(3,1,AObj.cells [.f (.int .i64 kind),.f (.int .i64 at_),.f (.str dg),.f (.fr 1 (ds.map fun s=>[.str s])),.f (.str key),.f (.int .i64 size)]),(4,1,AObj.cells [.f (.bool false),.f .nil,.f .nil]),(11,1,AObj.cells [.f (.str key),.f (.fr 1 (ds.map fun s=>[.str s])),.f (.int .i64 at_)])]) rfl ?_ ?_
    ·refine wk_i ?_ ?_<;>simp only[so_mf,mapOfH_some,so_ptf,so_cc,so_ff',cellsOf_some,List.drop_zero,List.take_succ_cons,List.take_zero,Nat.zero_add,Nat.le_refl,zw,seval,reduceIte,reduceCtorEq]
     exact so_row0 (enc:=encS) (l:=ds) (fun _=>rfl) rfl rfl rfl
    refine zs ?_
    repeat'(first|(simp -implicitDefEqProofs only[*,addFp_wr,fEntry,List.map_cons,List.map_nil,List.length_map,Nat.sub_zero,List.length_append,List.length_cons,List.length_nil,zr,seval,reduceIte,reduceCtorEq])|(apply zk<;>intro hc)|(refine zp ?_)|(refine zd ?_)|fail)
    rw[hil.out]
    exact end_1 rfl rfl (congrArg some kk.out) (lenB rfl) (lenE hil.out)
   ·have h5:=lt_f (Nat.le_refl E.length)
    have h5i:decide ((E.length:Int)<(E.length:Int))=false:=dcF (by omega)
    repeat'(first|(simp -implicitDefEqProofs only[*,addFp_wr,List.length_map,zr,seval,reduceIte,reduceCtorEq])|(apply zk<;>intro hc)|(refine zp ?_)|(refine zd ?_)|fail)
    refine ax_weakA [] (nw:=[]) (n:=146) (el:=[(0,.ptr 100001 1 0),(3,.ptr 3 1 0),(4,.ptr 4 1 0),(10,.f (.int .i64 (E.length:Nat))),(11,.ptr 11 1 0)]) (hl:=[(88,1,AObj.cells ((rowF fBlob B).map .f)),(1088,1,AObj.cells ((rowF fEntry E).map .f)),(100001,1,AObj.cells [.f (.int .i64 room),.f (.int .i64 lease),.sl 88 1 5 0 B.length,.sl 1088 1 3 0 E.length]),(3,1,AObj.cells [.f (.int .i64 kind),.f (.int .i64 at_),.f (.str dg),.f (.fr 1 (ds.map fun s=>[.str s])),.f (.str key),.f (.int .i64 size)]),(4,1,AObj.cells [.f (.bool false),.f .nil,.f .nil]),(11,1,AObj.cells [.f (.str key),.f (.fr 1 (ds.map fun s=>[.str s])),.f (.int .i64 at_)])]) rfl ?_ ?_
    ·refine wk_i ?_ ?_<;>simp only[so_mf,mapOfH_some,so_ptf,so_cc,so_ff',cellsOf_some,List.drop_zero,List.take_succ_cons,List.take_zero,Nat.zero_add,Nat.le_refl,zw,seval,reduceIte,reduceCtorEq]
     exact so_row0 (enc:=encS) (l:=ds) (fun _=>rfl) rfl rfl rfl
    refine zs ?_
    repeat'(first|(simp -implicitDefEqProofs only[*,addFp_wr,fEntry,List.map_cons,List.map_nil,List.length_map,Nat.sub_zero,List.length_append,List.length_cons,List.length_nil,zr,seval,reduceIte,reduceCtorEq])|(apply zk<;>intro hc)|(refine zp ?_)|(refine zd ?_)|fail)
    rw[hil.out]
    exact end_1 rfl rfl (congrArg some kk.out) (lenB rfl) (lenE hil.out)
  ·rw[if_neg hfull]at hq
   have dl:decide ((en.length:Int)=1000)=false:=dcF (by omega)
   have hF:=hide hq.symm
   have hRE:=hR1
   have hEl:en.length≤1000:=he
   clear hq
   repeat'(first|(simp -implicitDefEqProofs only[*,addFp_wr,zr,seval,reduceIte,reduceCtorEq])|(apply zk<;>intro hc)|(refine zp ?_)|(refine zd ?_)|fail)
   refine gG hEE ⟨fz_pc rfl rfl rfl,fz_f,trivial⟩ ?_
   clear hEE
   repeat'(first|(simp -implicitDefEqProofs only[*,addFp_wr,zr,seval,reduceIte,reduceCtorEq])|(apply zk<;>intro hc)|(refine zp ?_)|(refine zd ?_)|fail)
   clear dl h2 h3 hge hfull hR1 hl2
   generalize en=E at*
   refine ax_loopU (S:=Nat) 146 [0,3,4] [3,4,80000,81000,100001] (fun s=>[(10,.f (.int .i64 s))]) (fun s=>[]) (fun s=>s≤E.length∧∀ (m:Nat) z,m<s→E[m]? = some z→strLt z.1 key=true) (fun s=>E.length - s) (0) [] ?_ ?_ fun s hs=> ?_
   ·exact⟨Nat.zero_le _,fun m z h=>absurd h (by omega)⟩
   ·refine wk_i ?_ ?_<;>simp only[zw,seval,reduceIte,reduceCtorEq]
   obtain⟨hk1,hk2⟩:=hs
   have hKs:=hide hk2
   clear hk2
   refine srun_sound 45 _ _ _ _ ?_
   have q0:(rowF fEntry E).length=E.length*3:=row_len (sz:=3) (fun _=>rfl)
   have hend:(s<E.length∧∃ z,E[s]? = some z∧strLt z.1 key=true)∨(s<E.length∧∃ z,E[s]? = some z∧strLt z.1 key=false)∨s=E.length:=by
    rcases Nat.lt_or_ge s E.length with h|h
    ·obtain⟨z,hz⟩:=get_some h
     cases hl:strLt z.1 key
     ·exact .inr (.inl ⟨h,z,hz,hl⟩)
     ·exact .inl ⟨h,z,hz,hl⟩
    ·exact .inr (.inr (by omega))
   rcases hend with⟨hl2,z,hz,hzl⟩|hend
   ·have h6:=inc64 hl2 (by omega)
    have h5:=lt_t hl2
    have h5i:decide ((s:Int)<(E.length:Int))=true:=dcT (by omega)
    have c0:=row_cell (enc:=fEntry) (sz:=3) (j:=0) (fun _=>rfl) hz (show _=some (FV.str z.1)from rfl)
    have p0:(s*3+0+1≤E.length*3)=True:=by rw[eq_iff_iff,iff_true];omega
    have p1:(s*3+1≤E.length*3)=True:=by rw[eq_iff_iff,iff_true];omega
    rw[Nat.add_zero]at c0
    have hn:∀ (m:Nat) w,m<s+1→E[m]? = some w→strLt w.1 key=true:=fun m w hm hw=>by
     rcases Nat.lt_succ_iff_lt_or_eq.1 hm with h1|rfl
     ·exact hKs.out m w h1 hw
     ·rw[hz]at hw;obtain rfl:=Option.some.inj hw;exact hzl
    replace hn:=hide hn
    repeat'(first|(simp -implicitDefEqProofs only[*,addFp_wr,zr,seval,reduceIte,reduceCtorEq])|(apply zk<;>intro hc)|(refine zp ?_)|(refine zd ?_)|fail)
    refine⟨s+1,⟨hl2,hn.out⟩,by omega,?_⟩
    refine wk_i ?_ ?_<;>simp only[zw,seval,reduceIte,reduceCtorEq]
   have hk:=bs_lin2 (key:=fun b:Entry=>b.1) hRE.out hk1 hKs.out (hend.symm.imp (fun h=>h) fun h=>h.2)
   change eIdx E key=s at hk
   obtain⟨k,hkk⟩:∃ k:Nat,k=s:=⟨_,rfl⟩
   have e0:E2=E.take k++(key,ds,at_)::E.drop k:=by rw[← hF.out];unfold insE;rw[show((key,ds,at_):Entry).1=key from rfl,hk,← hkk]
   have e1:rowF fEntry E2=rowF fEntry (E.take k)++(fEntry (key,ds,at_)++rowF fEntry (E.drop k)):=by rw[e0,row_app,row_cons]
   have hil:E2.length=E.length+1:=by rw[e0,List.length_append,List.length_cons,List.length_take,List.length_drop];omega
   have hkl:k≤E.length:=by omega
   obtain⟨T1,hT1⟩:∃ T,List.take (s*3) ((rowF fEntry E).map AV.f)=T:=⟨_,rfl⟩
   obtain⟨T2,hT2⟩:∃ T,List.take ((E.length - s)*3) (List.drop (s*3) ((rowF fEntry E).map AV.f))=T:=⟨_,rfl⟩
   have k1:T1=(rowF fEntry (E.take k)).map AV.f:=by rw[← hT1,← List.map_take,row_take (sz:=3) (fun _=>rfl),hkk]
   have k2:T2=(rowF fEntry (E.drop k)).map AV.f:=by
    rw[← hT2,← List.map_drop,row_drop (sz:=3) (fun _=>rfl),List.take_of_length_le,hkk]
    rw[List.length_map,row_len (sz:=3) (fun _=>rfl),List.length_drop];exact Nat.le_refl _
   have k3:T1.length=s*3:=by rw[k1,List.length_map,row_len (sz:=3) (fun _=>rfl),List.length_take];omega
   have k5:T2.length=(E.length - s)*3:=by rw[k2,List.length_map,row_len (sz:=3) (fun _=>rfl),List.length_drop];omega
   have g1:((s:Int)≤(E.length:Int))=True:=by rw[eq_iff_iff,iff_true];omega
   have g4:((E.length:Int)≤(E.length:Int))=True:=by rw[eq_iff_iff,iff_true];omega
   have g5:(s*3≤E.length*3)=True:=by rw[eq_iff_iff,iff_true];omega
   have g6:((s+(E.length - s))*3≤E.length*3)=True:=by rw[eq_iff_iff,iff_true];omega
   have g7:(s*48≤140737488355328)=True:=by rw[eq_iff_iff,iff_true];omega
   have g8:((s+1)*48≤140737488355328)=True:=by rw[eq_iff_iff,iff_true];omega
   have g9:s+1+(E.length - s)=E.length+1:=by omega
   have g10:((E.length+1)*48≤140737488355328)=True:=by rw[eq_iff_iff,iff_true];omega
   have g11:s*3+3=(s+1)*3:=by omega
   have h16:(ds.length*16≤140737488355328)=True:=by rw[eq_iff_iff,iff_true];omega
   have kk:T1++ [AV.f (FV.str key),AV.f (FV.fr 1 (ds.map fun s=>[.str s])),AV.f (FV.int .i64 at_)]++T2=(rowF fEntry E2).map AV.f:=by rw[k1,k2,e1,List.map_append,List.map_append,List.append_assoc];rfl
   clear k1 k2 e0 e1 hk hkl hkk
   replace kk:=hide kk
   replace hil:=hide hil
   rcases hend with⟨hl2,z,hz,hzl⟩|rfl
   ·have h5:=lt_t hl2
    have h5i:decide ((s:Int)<(E.length:Int))=true:=dcT (by omega)
    have c0:=row_cell (enc:=fEntry) (sz:=3) (j:=0) (fun _=>rfl) hz (show _=some (FV.str z.1)from rfl)
    have p0:(s*3+0+1≤E.length*3)=True:=by rw[eq_iff_iff,iff_true];omega
    have p1:(s*3+1≤E.length*3)=True:=by rw[eq_iff_iff,iff_true];omega
    rw[Nat.add_zero]at c0
    clear hz
    repeat'(first|(simp -implicitDefEqProofs only[*,addFp_wr,List.length_map,zr,seval,reduceIte,reduceCtorEq])|(apply zk<;>intro hc)|(refine zp ?_)|(refine zd ?_)|fail)
    refine ax_weakA [] (nw:=[]) (n:=146) (el:=[(0,.ptr 100001 1 0),(3,.ptr 3 1 0),(4,.ptr 4 1 0),(10,.f (.int .i64 (s:Nat))),(11,.ptr 11 1 0)]) (hl:=[(80000,1,AObj.cells ((rowF fBlob B).map .f)),(81000,1,AObj.cells ((rowF fEntry E).map .f)),(100001,1,AObj.cells [.f (.int .i64 room),.f (.int .i64 lease),.sl 80000 1 5 0 B.length,.sl 81000 1 3 0 E.length]),(3,1,AObj.cells [.f (.int .i64 kind),.f (.int .i64 at_),.f (.str dg),.f (.fr 1 (ds.map fun s=>[.str s])),.f (.str key),.f (.int .i64 size)]),(4,1,AObj.cells [.f (.bool false),.f .nil,.f .nil]),(11,1,AObj.cells [.f (.str key),.f (.fr 1 (ds.map fun s=>[.str s])),.f (.int .i64 at_)])]) rfl ?_ ?_
    ·refine wk_i ?_ ?_<;>simp only[so_mf,mapOfH_some,so_ptf,so_cc,so_ff',cellsOf_some,List.drop_zero,List.take_succ_cons,List.take_zero,Nat.zero_add,Nat.le_refl,zw,seval,reduceIte,reduceCtorEq]
     exact so_row0 (enc:=encS) (l:=ds) (fun _=>rfl) rfl rfl rfl
    refine zs ?_
    repeat'(first|(simp -implicitDefEqProofs only[*,addFp_wr,fEntry,List.map_cons,List.map_nil,List.length_map,Nat.sub_zero,List.length_append,List.length_cons,List.length_nil,zr,seval,reduceIte,reduceCtorEq])|(apply zk<;>intro hc)|(refine zp ?_)|(refine zd ?_)|fail)
    rw[hil.out]
    exact end_1 rfl rfl (congrArg some kk.out) (lenB rfl) (lenE hil.out)
   ·have h5:=lt_f (Nat.le_refl E.length)
    have h5i:decide ((E.length:Int)<(E.length:Int))=false:=dcF (by omega)
    repeat'(first|(simp -implicitDefEqProofs only[*,addFp_wr,List.length_map,zr,seval,reduceIte,reduceCtorEq])|(apply zk<;>intro hc)|(refine zp ?_)|(refine zd ?_)|fail)
    refine ax_weakA [] (nw:=[]) (n:=146) (el:=[(0,.ptr 100001 1 0),(3,.ptr 3 1 0),(4,.ptr 4 1 0),(10,.f (.int .i64 (E.length:Nat))),(11,.ptr 11 1 0)]) (hl:=[(80000,1,AObj.cells ((rowF fBlob B).map .f)),(81000,1,AObj.cells ((rowF fEntry E).map .f)),(100001,1,AObj.cells [.f (.int .i64 room),.f (.int .i64 lease),.sl 80000 1 5 0 B.length,.sl 81000 1 3 0 E.length]),(3,1,AObj.cells [.f (.int .i64 kind),.f (.int .i64 at_),.f (.str dg),.f (.fr 1 (ds.map fun s=>[.str s])),.f (.str key),.f (.int .i64 size)]),(4,1,AObj.cells [.f (.bool false),.f .nil,.f .nil]),(11,1,AObj.cells [.f (.str key),.f (.fr 1 (ds.map fun s=>[.str s])),.f (.int .i64 at_)])]) rfl ?_ ?_
    ·refine wk_i ?_ ?_<;>simp only[so_mf,mapOfH_some,so_ptf,so_cc,so_ff',cellsOf_some,List.drop_zero,List.take_succ_cons,List.take_zero,Nat.zero_add,Nat.le_refl,zw,seval,reduceIte,reduceCtorEq]
     exact so_row0 (enc:=encS) (l:=ds) (fun _=>rfl) rfl rfl rfl
    refine zs ?_
    repeat'(first|(simp -implicitDefEqProofs only[*,addFp_wr,fEntry,List.map_cons,List.map_nil,List.length_map,Nat.sub_zero,List.length_append,List.length_cons,List.length_nil,zr,seval,reduceIte,reduceCtorEq])|(apply zk<;>intro hc)|(refine zp ?_)|(refine zd ?_)|fail)
    rw[hil.out]
    exact end_1 rfl rfl (congrArg some kk.out) (lenB rfl) (lenE hil.out)
end Go.Proofs.YtfajjcmagngfiaaGreatDoor
