/-
  The reference's removeEntry, ask, find. No statement of the seat is proved here; no conditions.
-/
import Derived.Test.YtfajjcmagngfiaaGreatDoorRd1
import Derived.Test.YtfajjcmagngfiaaGreatDoorSto
import Derived.Test.YtfajjcmagngfiaaGreatDoorPlC
namespace Go.Proofs.YtfajjcmagngfiaaGreatDoor
open Go.RowKit Go.Shelf
set_option linter.unusedVariables false
set_option linter.unusedSimpArgs false
set_option maxRecDepth 100000

theorem removeR_f (room lease:Int) (bl:List Blob) (en:List Entry) (k:Nat) (hb:en.length≤1000000) (hk:k<en.length) :
  FRetP Tryz.prog 77 [.v (.int .i64 room),.v (.int .i64 lease),.own 5 bl.length (rowF fBlob bl),.own 3 en.length (rowF fEntry en)] [] [.f (.int .i64 k)]
   [.v (.int .i64 room),.v (.int .i64 lease),.own 5 bl.length (rowF fBlob bl),.own 3 (delE en k).length (rowF fEntry (delE en k))] []:=by
 refine FCall.of_ax low_ref7_removeEntry ?_
 dsimp only[jm,ji,jf,jl,jL,jn,je,jx,jT,jC,jB,jq,jt,ju,jA,km,kf,kl,kn,kx,l_ref7_removeEntry]
 refine zs ?_
 have kl:(rowF fEntry en).length=en.length*3:=row_len (sz:=3) (fun _=>rfl)
 obtain⟨T1,hT1⟩:∃ T,List.take (k*3) ((rowF fEntry en).map AV.f)=T:=⟨_,rfl⟩
 obtain⟨T2,hT2⟩:∃ T,List.take ((en.length - (k+1))*3) (List.drop ((k+1)*3) ((rowF fEntry en).map AV.f))=T:=⟨_,rfl⟩
 have k1:T1=(rowF fEntry (en.take k)).map AV.f:=by rw[← hT1,← List.map_take,row_take (sz:=3) (fun _=>rfl)]
 have k2:T2=(rowF fEntry (en.drop (k+1))).map AV.f:=by
  rw[← hT2,← List.map_drop,row_drop (sz:=3) (fun _=>rfl),List.take_of_length_le]
  rw[List.length_map,row_len (sz:=3) (fun _=>rfl),List.length_drop];exact Nat.le_refl _
 have k3:T1.length=k*3:=by rw[k1,List.length_map,row_len (sz:=3) (fun _=>rfl),List.length_take];omega
 have h1:((k:Int)≤(en.length:Int))=True:=by rw[eq_iff_iff,iff_true];omega
 have h2:IntKind.i64.wrap ((k:Int)+1)=((k+1:Nat):Int):=by rw[wrap64]<;>omega
 have h3:(((k+1:Nat):Int)≤(en.length:Int))=True:=by rw[eq_iff_iff,iff_true];omega
 have h4:((en.length:Int)≤(en.length:Int))=True:=by rw[eq_iff_iff,iff_true];omega
 have h5:(k*3≤en.length*3)=True:=by rw[eq_iff_iff,iff_true];omega
 have h6:((k+1+(en.length - (k+1)))*3≤en.length*3)=True:=by rw[eq_iff_iff,iff_true];omega
 have h7:(k*48≤140737488355328)=True:=by rw[eq_iff_iff,iff_true];omega
 have h8:((en.length - 1)*48≤140737488355328)=True:=by rw[eq_iff_iff,iff_true];omega
 have h9:k+(en.length - (k+1))=en.length - 1:=by omega
 replace k1:=hide k1
 replace k2:=hide k2
 repeat'(first|(simp -implicitDefEqProofs only[*,List.length_map,Nat.sub_zero,addFp_wr,zr,seval,reduceIte,reduceCtorEq])|(apply zk<;>intro hc)|(refine zp ?_)|(refine zd ?_)|fail)
 have e1:(delE en k).length=en.length - 1:=by unfold delE;rw[List.length_append,List.length_take,List.length_drop];omega
 have e2:rowF fEntry (delE en k)=rowF fEntry (en.take k)++rowF fEntry (en.drop (k+1)):=by unfold delE;rw[row_app]
 refine⟨[],[.f (.int .i64 room),.f (.int .i64 lease),.sl 80000 1 5 0 bl.length,.sl 12 2 3 0 (en.length - 1)],rfl,rfl,⟨rfl,rfl,.inr ⟨80000,1,rfl,rfl,by rw[row_len (sz:=5) (fun _=>rfl)];exact Nat.le_refl _⟩,.inr ⟨12,2,by rw[e1],?_,by rw[row_len (sz:=3) (fun _=>rfl)];exact Nat.le_refl _⟩,rfl⟩,rfl,by simp [idsC,idsS],by simp [idsC,idsS]⟩
 rw[e2,List.map_append,← k1.out,← k2.out]
 rfl
theorem miss_ks {B bl:List Blob}(h:B.map ksB=bl.map ksB) (ds:List ByteArray):missingOf B ds=missingOf bl ds:=by
 unfold missingOf
 congr 1
 funext d
 rw[hasB_ks h]
theorem touch1_no {lease at_:Int}{u v:Bool}{B:List Blob}{x:ByteArray}(hh:hasB B x=false):touch1 lease at_ u v B x=B:=by
 unfold touch1
 split
 ·rw[hh];rfl
 ·rfl
theorem touch1_at {lease at_:Int}{u v:Bool}{B:List Blob}{x:ByteArray}{y:Blob}(hy:B[bIdx B x]? = some y) (hh:hasB B x=true):touch1 lease at_ u v B x=B.set (bIdx B x) (tchB lease at_ u v y):=by
 unfold touch1
 rw[hy,hh];rfl
theorem end_mi {H:Heap}{i1 v1 i2 v2 n m id ver:Nat}{room lease:Int}{b:Bool}{M:List ByteArray}{xs ys:List FV}{X:Nat × Option AObj}(hp:X=(1,some (.cells [.f (.int .i64 room),.f (.int .i64 lease),.sl i1 v1 5 0 n,.sl i2 v2 3 0 m]))) (h1:cellsOf v1 (H i1)=some (xs.map .f)) (h2:cellsOf v2 (H i2)=some (ys.map .f)) (l1:n*5≤xs.length) (l2:m*3≤ys.length) (h3:cellsOf ver (H id)=some ((M.map FV.str).map .f)) (hne:i1≠i2:=by decide) (hn1:100001≠i1:=by decide) (hn2:100001≠i2:=by decide) (hn3:100001≠id:=by decide) (hn4:i1≠id:=by decide) (hn5:i2≠id:=by decide) :
  ∃ l cs',AV.agg [.f (.bool b),.sl id ver 1 0 M.length,.f .nil]=oneOrTup l∧X=(1,some (.cells cs'))∧RcsOk H [.v (.int .i64 room),.v (.int .i64 lease),.own 5 n xs,.own 3 m ys] cs'∧RsOk H [rAnsM b (rcS M) (.v .nil)] l∧(idsC cs'++idsS l).Nodup∧¬100001∈idsC cs'++idsS l:=
 ⟨[.agg [.f (.bool b),.sl id ver 1 0 M.length,.f .nil]],_,rfl,hp,⟨rfl,rfl,.inr ⟨i1,v1,rfl,h1,l1⟩,.inr ⟨i2,v2,rfl,h2,l2⟩,rfl⟩,⟨⟨rfl,.inr ⟨id,ver,rfl,h3,by rw[List.length_map,Nat.mul_one];exact Nat.le_refl _⟩,rfl,rfl⟩,rfl⟩,by simp [idsC,idsS,hne,hn4,hn5],by simp [idsC,idsS,hn1,hn2,hn3]⟩
theorem end_gi {H:Heap}{i1 v1 i2 v2 n m id ver:Nat}{room lease:Int}{b:Bool}{M:List ByteArray}{xs ys:List FV}{X:Nat × Option AObj}(hp:X=(1,some (.cells [.f (.int .i64 room),.f (.int .i64 lease),.sl i1 v1 5 0 n,.sl i2 v2 3 0 m]))) (h1:cellsOf v1 (H i1)=some (xs.map .f)) (h2:cellsOf v2 (H i2)=some (ys.map .f)) (l1:n*5≤xs.length) (l2:m*3≤ys.length) (h3:cellsOf ver (H id)=some ((M.map FV.str).map .f)) (hne:i1≠i2:=by decide) (hn1:100001≠i1:=by decide) (hn2:100001≠i2:=by decide) (hn3:100001≠id:=by decide) (hn4:i1≠id:=by decide) (hn5:i2≠id:=by decide) :
  ∃ l cs',AV.agg [.f (.bool b),.f .nil,.sl id ver 1 0 M.length]=oneOrTup l∧X=(1,some (.cells cs'))∧RcsOk H [.v (.int .i64 room),.v (.int .i64 lease),.own 5 n xs,.own 3 m ys] cs'∧RsOk H [rAnsM b (.v .nil) (rcS M)] l∧(idsC cs'++idsS l).Nodup∧¬100001∈idsC cs'++idsS l:=
 ⟨[.agg [.f (.bool b),.f .nil,.sl id ver 1 0 M.length]],_,rfl,hp,⟨rfl,rfl,.inr ⟨i1,v1,rfl,h1,l1⟩,.inr ⟨i2,v2,rfl,h2,l2⟩,rfl⟩,⟨⟨rfl,rfl,.inr ⟨id,ver,rfl,h3,by rw[List.length_map,Nat.mul_one];exact Nat.le_refl _⟩,rfl⟩,rfl⟩,by simp [idsC,idsS,hne,hn4,hn5],by simp [idsC,idsS,hn1,hn2,hn3]⟩
set_option maxHeartbeats 4000000 in
theorem askR_f (room lease:Int) (bl:List Blob) (en:List Entry) (e:Ev) (hb:bl.length≤1000000) (hr:Rising (fun b:Blob=>b.1) bl) (hd:e.2.2.2.1.length≤1000000) :
  FRetP Tryz.prog 55 [.v (.int .i64 room),.v (.int .i64 lease),.own 5 bl.length (rowF fBlob bl),.own 3 en.length (rowF fEntry en)] [] [aEv e]
   [.v (.int .i64 room),.v (.int .i64 lease),.own 5 bl.length (rowF fBlob (touchL lease e.2.1 false true bl e.2.2.2.1)),.own 3 en.length (rowF fEntry en)] [rAnsM (decide ((missingOf bl e.2.2.2.1).length=0)) (rcS (missingOf bl e.2.2.2.1)) (.v .nil)]:=by
 obtain⟨kind,at_,dg,ds,key,size⟩:=e
 dsimp only at hd ⊢
 have hB:=fun (B:List Blob) (d:ByteArray) (h:B.length=bl.length)=>blobR_f (room,lease,B,en) d (by show(B.length:Int)≤_;omega)
 have hM:=missingR_f (room,lease,touchL lease at_ false true bl ds,en) ds (by show((touchL lease at_ false true bl ds).length:Int)≤_;rw[touchL_len];omega) hd
 rw[show missingOf (room,lease,touchL lease at_ false true bl ds,en).2.2.1 ds=missingOf bl ds from miss_ks touchL_ks ds]at hM
 replace hB:=hide hB
 replace hM:=hide hM
 have hR0:=hide hr
 clear hr
 refine FCall.of_ax low_ref7_ask ?_
 dsimp only[jm,ji,jf,jl,jL,jn,je,jx,jT,jC,jB,jq,jt,ju,jA,km,kf,kl,kn,kx,l_ref7_ask,aEv,frStrs]
 refine zs ?_
 repeat'(first|(simp -implicitDefEqProofs only[*,zr,seval,reduceIte,reduceCtorEq])|(apply zk<;>intro hc)|(refine zp ?_)|(refine zd ?_)|fail)
 refine ax_loopW (S:=Nat) 38 [0,3,4] [3,4] (fun s=>[(5,.f (.int .i64 s))]) (fun s=>[(80000,1,AObj.cells ((rowF fBlob (touchL lease at_ false true bl (ds.take s))).map AV.f)),(81000,1,AObj.cells ((rowF fEntry en).map .f)),(100001,1,AObj.cells [.f (.int .i64 room),.f (.int .i64 lease),.sl 80000 1 5 0 bl.length,.sl 81000 1 3 0 en.length])]) (fun s=>s≤ds.length) (fun s=>ds.length - s) (0) [] [] ?_ rfl ?_ fun s hs=> ?_
 ·exact Nat.zero_le _
 ·refine wk_i ?_ ?_<;>simp only[List.take_zero,show touchL lease at_ false true bl []=bl from rfl,zw,seval,reduceIte,reduceCtorEq]
 simp only[sws_n,swh_n]
 refine zs ?_
 rcases Nat.lt_or_ge s ds.length with hlt|hge
 ·obtain⟨x,hx⟩:=get_some hlt
  have h4:=inc64 hlt (by omega)
  have h2:=lt_t hlt
  have hs2:touchL lease at_ false true bl (ds.take (s+1))=touch1 lease at_ false true (touchL lease at_ false true bl (ds.take s)) x:=by rw[List.take_add_one,hx];exact touchL_snoc
  have hl2:(touchL lease at_ false true bl (ds.take s)).length=bl.length:=touchL_len
  have hR:=touchL_rise (lease:=lease) (at_:=at_) (uses:=false) (holds:=true) (ds:=ds.take s) hR0.out
  generalize touchL lease at_ false true bl (ds.take s)=B at*
  rw[← hl2]
  have hBB:=hB.out B x hl2
  have hb2:B.length≤1000000:=by omega
  replace hl2:=hide hl2
  have hR2:=hide hR
  have hS2:=hide hs2
  clear hR hs2 hB hM hb
  cases hh:hasB B x
  ·rw[show firstK (fun b:Blob=>b.1) (room,lease,B,en).2.2.1 x = -1 from firstK_hasnt hh]at hBB
   have hx1:=touch1_no (lease:=lease) (at_:=at_) (u:=false) (v:=true) hh
   repeat'(first|(simp -implicitDefEqProofs only[*,List.getElem?_map,Option.map_some,zr,seval,reduceIte,reduceCtorEq])|(apply zk<;>intro hc)|(refine zp ?_)|(refine zd ?_)|fail)
   refine gG hBB ⟨fz_pc rfl rfl rfl,fz_f,trivial⟩ ?_
   repeat'(first|(simp -implicitDefEqProofs only[*,zr,seval,reduceIte,reduceCtorEq])|(apply zk<;>intro hc)|(refine zp ?_)|(refine zd ?_)|fail)
   refine⟨s+1,[],hlt,by omega,rfl,?_⟩
   rw[hS2.out,hx1]
   refine wk_i ?_ ?_<;>simp only[zw,seval,reduceIte,reduceCtorEq]
  ·obtain⟨y,hy,hyd⟩:=hasB_at hR2.out hh
   rw[show firstK (fun b:Blob=>b.1) (room,lease,B,en).2.2.1 x=(bIdx B x:Nat)from firstB hR2.out hh]at hBB
   have hx1:=touch1_at (lease:=lease) (at_:=at_) (u:=false) (v:=true) hy hh
   have hLs:=leaseR_f room lease B en (bIdx B x) y at_ hb2 hy
   generalize bIdx B x=i at*
   rw[← hx1]at hLs
   have hlt2:=(List.getElem?_eq_some_iff.1 hy).1
   replace hyd:=hide hyd
   replace hx1:=hide hx1
   replace hLs:=hide hLs
   have dk:decide ((i:Int)≥0)=true:=dcT (by omega)
   have dk2:decide ((0:Int)≤(i:Int))=true:=dcT (by omega)
   repeat'(first|(simp -implicitDefEqProofs only[*,List.getElem?_map,Option.map_some,zr,seval,reduceIte,reduceCtorEq])|(apply zk<;>intro hc)|(refine zp ?_)|(refine zd ?_)|fail)
   refine gG hBB ⟨fz_pc rfl rfl rfl,fz_f,trivial⟩ ?_
   repeat'(first|(simp -implicitDefEqProofs only[*,zr,seval,reduceIte,reduceCtorEq])|(apply zk<;>intro hc)|(refine zp ?_)|(refine zd ?_)|fail)
   refine gP hLs.out 100001 1 [.f (.int .i64 room),.f (.int .i64 lease),.sl 80000 1 5 0 B.length,.sl 81000 1 3 0 en.length] [] [.f (.int .i64 (i:Nat)),.f (.int .i64 at_)] ?_
   repeat'(first|(simp -implicitDefEqProofs only[*,zr,seval,reduceIte,reduceCtorEq])|(apply zk<;>intro hc)|(refine zp ?_)|(refine zd ?_)|fail)
   refine⟨s+1,[(28,80000),(1028,81000)],hlt,by omega,rfl,?_⟩
   rw[hS2.out]
   refine wk_i ?_ ?_<;>simp only[zw,seval,reduceIte,reduceCtorEq]
 ·obtain rfl:s=ds.length:=by omega
  have h2:=lt_f hge
  have h3:=List.take_length (l:=ds)
  have hl2:(touchL lease at_ false true bl ds).length=bl.length:=touchL_len
  rw[h3]
  generalize touchL lease at_ false true bl ds=B at*
  rw[← hl2]
  replace hl2:=hide hl2
  generalize missingOf bl ds=M at*
  have hm:=hM.out
  have hdn:decide ((M.length:Int)=0)=decide (M.length=0):=by
   cases h:decide (M.length=0)
   ·exact dcF (by have:=of_decide_eq_false h;omega)
   ·exact dcT (by have:=of_decide_eq_true h;omega)
  repeat'(first|(simp -implicitDefEqProofs only[*,zr,seval,reduceIte,reduceCtorEq])|(apply zk<;>intro hc)|(refine zp ?_)|(refine zd ?_)|fail)
  refine gG hm ⟨fz_pc rfl rfl rfl,fz_f,trivial⟩ ?_
  repeat'(first|(simp -implicitDefEqProofs only[*,hdn,addFp_wr,zr,seval,reduceIte,reduceCtorEq])|(apply zk<;>intro hc)|(refine zp ?_)|(refine zd ?_)|fail)
  exact end_mi rfl rfl rfl (lenB rfl) (lenE rfl) rfl
theorem firstE {en:List Entry}{d:ByteArray}(hr:Rising (fun b:Entry=>b.1) en) (h:hasE en d=true):∃ y,en[eIdx en d]? = some y∧y.1=d∧firstK (fun b:Entry=>b.1) en d=(eIdx en d:Nat):=by
 obtain⟨i,x,h1,h2,h3⟩:=firstK_has (key:=fun b:Entry=>b.1) h
 obtain⟨y,h4,h5⟩:=hasE_at hr h
 exact⟨y,h4,h5,by rw[h1,rising_at hr h2 h4 (h3.trans h5.symm)]⟩
set_option maxHeartbeats 4000000 in
theorem findR_f (room lease:Int) (bl:List Blob) (en:List Entry) (e:Ev) (hb:bl.length≤1000000) (hr:Rising (fun b:Blob=>b.1) bl) (he:en.length≤1000000) (hre:Rising (fun b:Entry=>b.1) en) (hrf:∀ x∈en,x.2.1.length≤1000000) :
  FRetP Tryz.prog 57 [.v (.int .i64 room),.v (.int .i64 lease),.own 5 bl.length (rowF fBlob bl),.own 3 en.length (rowF fEntry en)] [] [aEv e]
   [.v (.int .i64 room),.v (.int .i64 lease),.own 5 (searchV lease bl en e.2.1 e.2.2.2.2.1).1.length (rowF fBlob (searchV lease bl en e.2.1 e.2.2.2.2.1).1),.own 3 (searchV lease bl en e.2.1 e.2.2.2.2.1).2.1.length (rowF fEntry (searchV lease bl en e.2.1 e.2.2.2.2.1).2.1)] [rAnsM (searchV lease bl en e.2.1 e.2.2.2.2.1).2.2.1 (searchV lease bl en e.2.1 e.2.2.2.2.1).2.2.2 (.v .nil)]:=by
 obtain⟨kind,at_,dg,ds,key,size⟩:=e
 dsimp only
 have hE:=entryR_f (room,lease,bl,en) key (by show(en.length:Int)≤_;omega)
 refine FCall.of_ax low_ref7_find ?_
 dsimp only[jm,ji,jf,jl,jL,jn,je,jx,jT,jC,jB,jq,jt,ju,jA,km,kf,kl,kn,kx,l_ref7_find,aEv,frStrs]
 cases hh:hasE en key
 ·have e1:searchV lease bl en at_ key=(bl,en,false,.v .nil):=by
   unfold searchV
   split
   ·rw[hh];rfl
   ·rfl
  rw[show firstK (fun b:Entry=>b.1) (room,lease,bl,en).2.2.2 key = -1 from firstK_hasnt hh]at hE
  rw[e1]
  clear hh e1 hr hre hrf
  refine zs ?_
  repeat'(first|(simp -implicitDefEqProofs only[*,zr,seval,reduceIte,reduceCtorEq])|(apply zk<;>intro hc)|(refine zp ?_)|(refine zd ?_)|fail)
  refine gG hE ⟨fz_pc rfl rfl rfl,fz_f,trivial⟩ ?_
  repeat'(first|(simp -implicitDefEqProofs only[*,addFp_wr,zr,seval,reduceIte,reduceCtorEq])|(apply zk<;>intro hc)|(refine zp ?_)|(refine zd ?_)|fail)
  exact end_1 rfl rfl rfl (lenB rfl) (lenE rfl)
 obtain⟨y,hy,hyd,hf⟩:=firstE hre hh
 rw[show firstK (fun b:Entry=>b.1) (room,lease,bl,en).2.2.2 key=(eIdx en key:Nat)from hf]at hE
 have hS:searchV lease bl en at_ key=if missingOf bl y.2.1 = []then(touchL lease at_ true true bl y.2.1,en.set (eIdx en key) (y.1,y.2.1,at_),true,.v .nil)else(bl,delE en (eIdx en key),false,rcS (missingOf bl y.2.1)):=by
  unfold searchV
  rw[hy,hh];rfl
 rw[hS]
 clear hf hS hh hre
 generalize eIdx en key=i at*
 have hlt2:=(List.getElem?_eq_some_iff.1 hy).1
 have hL:=lt_t hlt2
 have hyl:=hrf y (List.mem_of_getElem? hy)
 have dk:decide ((i:Int)<0)=false:=dcF (by omega)
 have hM:=missingR_f (room,lease,bl,en) y.2.1 (by show(bl.length:Int)≤_;omega) hyl
 have c1:=row_cell (enc:=fEntry) (sz:=3) (j:=1) (fun _=>rfl) hy (show _=some (frStrs y.2.1)from rfl)
 have q0:(rowF fEntry en).length=en.length*3:=row_len (sz:=3) (fun _=>rfl)
 have p1:(i*3+1+1≤en.length*3)=True:=by rw[eq_iff_iff,iff_true];omega
 have p2:(i*3+2+1≤en.length*3)=True:=by rw[eq_iff_iff,iff_true];omega
 clear hrf
 replace hyd:=hide hyd
 obtain⟨yk,refs,yu⟩:=y
 dsimp only[frStrs]at hM c1 hyl ⊢
 by_cases hmz:missingOf bl refs = []
 case neg=>
  rw[if_neg hmz]
  have hpos:0<(missingOf bl refs).length:=by
   rcases Nat.eq_zero_or_pos (missingOf bl refs).length with h|h
   ·exact absurd (List.eq_nil_of_length_eq_zero h) hmz
   ·exact h
  generalize missingOf bl refs=M at*
  have dm:decide ((M.length:Int) > 0)=true:=dcT (by omega)
  have dm2:decide ((0:Int)<(M.length:Int))=true:=dcT (by omega)
  have hRm:=removeR_f room lease bl en i he hlt2
  clear hmz hpos hr
  replace hRm:=hide hRm
  replace hM:=hide hM
  refine zs ?_
  repeat'(first|(simp -implicitDefEqProofs only[*,zr,seval,reduceIte,reduceCtorEq])|(apply zk<;>intro hc)|(refine zp ?_)|(refine zd ?_)|fail)
  refine gG hE ⟨fz_pc rfl rfl rfl,fz_f,trivial⟩ ?_
  clear hE
  repeat'(first|(simp -implicitDefEqProofs only[*,zr,seval,reduceIte,reduceCtorEq])|(apply zk<;>intro hc)|(refine zp ?_)|(refine zd ?_)|fail)
  refine gG hM.out ⟨fz_pc rfl rfl rfl,fz_f,trivial⟩ ?_
  repeat'(first|(simp -implicitDefEqProofs only[*,zr,seval,reduceIte,reduceCtorEq])|(apply zk<;>intro hc)|(refine zp ?_)|(refine zd ?_)|fail)
  refine gP hRm.out 100001 1 [.f (.int .i64 room),.f (.int .i64 lease),.sl 80000 1 5 0 bl.length,.sl 81000 1 3 0 en.length] [] [.f (.int .i64 (i:Nat))] ?_
  repeat'(first|(simp -implicitDefEqProofs only[*,addFp_wr,zr,seval,reduceIte,reduceCtorEq])|(apply zk<;>intro hc)|(refine zp ?_)|(refine zd ?_)|fail)
  exact end_mi rfl rfl rfl (lenB rfl) (lenE rfl) rfl
 rw[if_pos hmz]
 have hhas:=missing_zero.1 (by rw[hmz];rfl:(missingOf bl refs).length=0)
 rw[show missingOf (room,lease,bl,en).2.2.1 refs = []from hmz]at hM
 have dm:decide ((0:Int) > 0)=false:=rfl
 have dm2:decide (((0:Nat):Int) > 0)=false:=rfl
 have dm3:decide ((0:Int)<((0:Nat):Int))=false:=rfl
 have e2:=row_set1 (enc:=fEntry) (sz:=3) (j:=2) (y:=(yk,refs,at_)) (v:= .int .i64 at_) (fun _=>rfl) hy (by omega) rfl
 rw[splice_1]at e2
 have hB:=fun (B:List Blob) (d:ByteArray) (h:B.length=bl.length)=>blobR_f (room,lease,B,en.set i (yk,refs,at_)) d (by show(B.length:Int)≤_;omega)
 have hEl:(en.set i (yk,refs,at_)).length=en.length:=List.length_set
 generalize en.set i (yk,refs,at_)=en2 at*
 clear hmz hy
 replace hB:=hide hB
 replace hM:=hide hM
 replace hhas:=hide hhas
 have hR0:=hide hr
 clear hr
 refine zs ?_
 repeat'(first|(simp -implicitDefEqProofs only[*,zr,seval,reduceIte,reduceCtorEq])|(apply zk<;>intro hc)|(refine zp ?_)|(refine zd ?_)|fail)
 refine gG hE ⟨fz_pc rfl rfl rfl,fz_f,trivial⟩ ?_
 clear hE
 repeat'(first|(simp -implicitDefEqProofs only[*,zr,seval,reduceIte,reduceCtorEq])|(apply zk<;>intro hc)|(refine zp ?_)|(refine zd ?_)|fail)
 refine gG hM.out ⟨fz_pc rfl rfl rfl,fz_f,trivial⟩ ?_
 repeat'(first|(simp -implicitDefEqProofs only[*,addFp_wr,wrL_3,zr,seval,reduceIte,reduceCtorEq])|(apply zk<;>intro hc)|(refine zp ?_)|(refine zd ?_)|fail)
 clear hM c1 e2 p1 p2 hL
 rw[← hEl]
 replace hEl:=hide hEl
 refine ax_loopW (S:=Nat) 72 [0,3,4,6] [3,4] (fun s=>[(8,.f (.int .i64 s))]) (fun s=>[(80000,1,AObj.cells ((rowF fBlob (touchL lease at_ true true bl (refs.take s))).map AV.f)),(81000,1,AObj.cells ((rowF fEntry en2).map .f)),(100001,1,AObj.cells [.f (.int .i64 room),.f (.int .i64 lease),.sl 80000 1 5 0 bl.length,.sl 81000 1 3 0 en2.length])]) (fun s=>s≤refs.length) (fun s=>refs.length - s) (0) [] [] ?_ rfl ?_ fun s hs=> ?_
 ·exact Nat.zero_le _
 ·refine wk_i ?_ ?_<;>simp only[List.take_zero,show touchL lease at_ true true bl []=bl from rfl,zw,seval,reduceIte,reduceCtorEq]
 simp only[sws_n,swh_n]
 refine zs ?_
 rcases Nat.lt_or_ge s refs.length with hlt|hge
 ·obtain⟨x,hx⟩:=get_some hlt
  have h4:=inc64 hlt (by omega)
  have h2:=lt_t hlt
  have hs2:touchL lease at_ true true bl (refs.take (s+1))=touch1 lease at_ true true (touchL lease at_ true true bl (refs.take s)) x:=by rw[List.take_add_one,hx];exact touchL_snoc
  have hl2:(touchL lease at_ true true bl (refs.take s)).length=bl.length:=touchL_len
  have hR:=touchL_rise (lease:=lease) (at_:=at_) (uses:=true) (holds:=true) (ds:=refs.take s) hR0.out
  have hh:hasB (touchL lease at_ true true bl (refs.take s)) x=true:=by rw[hasB_ks touchL_ks];exact hhas.out x (List.mem_of_getElem? hx)
  generalize touchL lease at_ true true bl (refs.take s)=B at*
  rw[← hl2]
  have hBB:=hB.out B x hl2
  have hb2:B.length≤1000000:=by omega
  replace hl2:=hide hl2
  have hS2:=hide hs2
  obtain⟨y,hy,hyd⟩:=hasB_at hR hh
  rw[show firstK (fun b:Blob=>b.1) (room,lease,B,en2).2.2.1 x=(bIdx B x:Nat)from firstB hR hh]at hBB
  have hx1:=touch1_at (lease:=lease) (at_:=at_) (u:=true) (v:=true) hy hh
  clear hs2 hB hb hR hh hhas
  generalize bIdx B x=j at*
  have hlt3:=(List.getElem?_eq_some_iff.1 hy).1
  have hL:=lt_t hlt3
  have q1:(rowF fBlob B).length=B.length*5:=row_len (sz:=5) (fun _=>rfl)
  have p2:(j*5+2+1≤B.length*5)=True:=by rw[eq_iff_iff,iff_true];omega
  have e1:=row_set1 (enc:=fBlob) (sz:=5) (j:=2) (y:=tchB lease at_ true false y) (v:= .int .i64 at_) (fun _=>rfl) hy (by omega) rfl
  rw[splice_1]at e1
  have hLs:=leaseR_f room lease (B.set j (tchB lease at_ true false y)) en2 j (tchB lease at_ true false y) at_ (by rw[List.length_set];exact hb2) (by rw[List.getElem?_set_self hlt3])
  rw[List.set_set,show tchB lease at_ false true (tchB lease at_ true false y)=tchB lease at_ true true y from rfl,← hx1,List.length_set]at hLs
  have hl3:(B.set j (tchB lease at_ true false y)).length=B.length:=List.length_set
  generalize B.set j (tchB lease at_ true false y)=B1 at*
  replace hyd:=hide hyd
  replace hx1:=hide hx1
  replace hLs:=hide hLs
  replace hl3:=hide hl3
  clear hy
  repeat'(first|(simp -implicitDefEqProofs only[*,List.getElem?_map,Option.map_some,zr,seval,reduceIte,reduceCtorEq])|(apply zk<;>intro hc)|(refine zp ?_)|(refine zd ?_)|fail)
  refine gG hBB ⟨fz_pc rfl rfl rfl,fz_f,trivial⟩ ?_
  repeat'(first|(simp -implicitDefEqProofs only[*,addFp_wr,wrL_3,zr,seval,reduceIte,reduceCtorEq])|(apply zk<;>intro hc)|(refine zp ?_)|(refine zd ?_)|fail)
  refine gP hLs.out 100001 1 [.f (.int .i64 room),.f (.int .i64 lease),.sl 80000 1 5 0 B.length,.sl 81000 1 3 0 en2.length] [] [.f (.int .i64 (j:Nat)),.f (.int .i64 at_)] ?_ (hpc:=⟨rfl,rfl,.inr ⟨80000,1,rfl,rfl,lenB hl3.out⟩,.inr ⟨81000,1,rfl,rfl,lenE rfl⟩,rfl⟩)
  repeat'(first|(simp -implicitDefEqProofs only[*,addFp_wr,wrL_3,zr,seval,reduceIte,reduceCtorEq])|(apply zk<;>intro hc)|(refine zp ?_)|(refine zd ?_)|fail)
  refine⟨s+1,[(70,80000),(1070,81000)],hlt,by omega,rfl,?_⟩
  rw[hS2.out]
  refine wk_i ?_ ?_<;>simp only[zw,seval,reduceIte,reduceCtorEq]
 ·obtain rfl:s=refs.length:=by omega
  have h2:=lt_f hge
  have h3:=List.take_length (l:=refs)
  have hl2:(touchL lease at_ true true bl refs).length=bl.length:=touchL_len
  rw[h3]
  generalize touchL lease at_ true true bl refs=B at*
  rw[← hl2]
  replace hl2:=hide hl2
  repeat'(first|(simp -implicitDefEqProofs only[*,addFp_wr,zr,seval,reduceIte,reduceCtorEq])|(apply zk<;>intro hc)|(refine zp ?_)|(refine zd ?_)|fail)
  exact end_1 rfl rfl rfl (lenB rfl) (lenE rfl)
end Go.Proofs.YtfajjcmagngfiaaGreatDoor
