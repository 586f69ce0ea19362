/-
  The reference's putBlob. No statement of the seat is proved here; no conditions.
-/
import Derived.Test.YtfajjcmagngfiaaGreatDoorRd3
import Derived.Test.YtfajjcmagngfiaaGreatDoorPut
namespace Go.Proofs.YtfajjcmagngfiaaGreatDoor
open Go.RowKit Go.Shelf
set_option linter.unusedVariables false
set_option linter.unusedSimpArgs false
set_option maxRecDepth 100000

theorem bs_lin2 {α : Type}{key : α→ByteArray}{l:List α}{t:ByteArray}{k:Nat}(hr:Rising key l) (hk:k≤l.length) (h1:∀ (m:Nat) z,m<k→l[m]? = some z→strLt (key z) t=true) (h2:k=l.length∨∃ z,l[k]? = some z∧strLt (key z) t=false):bsIdx (fun b=>cmpB (key b) t) l=k:=by
 refine bsIdx_eq hk (fun m z hm hz=>cmpB_lt.2 (h1 m z hm hz)) fun m z hm hz hlt=> ?_
 have hml:=(List.getElem?_eq_some_iff.1 hz).1
 rcases h2 with rfl|⟨y,hy,hf⟩
 ·omega
 ·have hzl:=cmpB_lt.1 hlt
  rcases Nat.eq_or_lt_of_le hm with rfl|hm
  ·rw[hy]at hz;obtain rfl:=Option.some.inj hz
   rw[hf]at hzl;cases hzl
  ·have:=strLt_trans (hr k m y z hm hy hz) hzl
   rw[hf]at this;cases this
def PutF (room lease:Int) (bl:List Blob) (en:List Entry) (e:Ev) (r:List Blob) (b:Bool) (g:RC) (flt:Int):Prop:=
 FRetP Tryz.prog 54 [.v (.int .i64 room),.v (.int .i64 lease),.own 5 bl.length (rowF fBlob bl),.own 3 en.length (rowF fEntry en)] [] [aEv e]
   [.v (.int .i64 room),.v (.int .i64 lease),.own 5 r.length (rowF fBlob r),.own 3 en.length (rowF fEntry en)] [rAnsM b (.v .nil) g,.c (.v (.int .i64 flt))]
theorem end_ga {H:Heap}{i1 v1 i2 v2 n m id ver:Nat}{room lease flt:Int}{b:Bool}{M:List ByteArray}{xs ys:List FV}{X:Nat × Option AObj}(hp:X=(1,some (.cells [.f (.int .i64 room),.f (.int .i64 lease),.sl i1 v1 5 0 n,.sl i2 v2 3 0 m]))) (h1:cellsOf v1 (H i1)=some (xs.map .f)) (h2:cellsOf v2 (H i2)=some (ys.map .f)) (l1:n*5≤xs.length) (l2:m*3≤ys.length) (h3:cellsOf ver (H id)=some ((M.map FV.str).map .f)) (hne:i1≠i2:=by decide) (hn1:100001≠i1:=by decide) (hn2:100001≠i2:=by decide) (hn3:100001≠id:=by decide) (hn4:i1≠id:=by decide) (hn5:i2≠id:=by decide) :
  ∃ l cs',AV.tup [.agg [.f (.bool b),.f .nil,.sl id ver 1 0 M.length],.f (.int .i64 flt)]=oneOrTup l∧X=(1,some (.cells cs'))∧RcsOk H [.v (.int .i64 room),.v (.int .i64 lease),.own 5 n xs,.own 3 m ys] cs'∧RsOk H [rAnsM b (.v .nil) (rcS M),.c (.v (.int .i64 flt))] l∧(idsC cs'++idsS l).Nodup∧¬100001∈idsC cs'++idsS l:=
 ⟨[.agg [.f (.bool b),.f .nil,.sl id ver 1 0 M.length],.f (.int .i64 flt)],_,rfl,hp,⟨rfl,rfl,.inr ⟨i1,v1,rfl,h1,l1⟩,.inr ⟨i2,v2,rfl,h2,l2⟩,rfl⟩,⟨⟨rfl,rfl,.inr ⟨id,ver,rfl,h3,by rw[List.length_map,Nat.mul_one];exact Nat.le_refl _⟩,rfl⟩,rfl,rfl⟩,by simp [idsC,idsS,hne,hn4,hn5],by simp [idsC,idsS,hn1,hn2,hn3]⟩
set_option maxHeartbeats 4000000 in
theorem put_has (room lease:Int) (bl:List Blob) (en:List Entry) (e:Ev) (hb:bl.length≤1000000) (hr:Rising (fun b:Blob=>b.1) bl) (hh:hasB bl e.2.2.1=true):PutF room lease bl en e (touch1 lease e.2.1 true true bl e.2.2.1) true (.v .nil) 0:=by
 obtain⟨kind,at_,dg,ds,key,size⟩:=e
 dsimp only at hh ⊢
 have hB:=blobR_f (room,lease,bl,en) dg (by show(bl.length:Int)≤_;omega)
 rw[show firstK (fun b:Blob=>b.1) (room,lease,bl,en).2.2.1 dg=(bIdx bl dg:Nat)from firstB hr hh]at hB
 obtain⟨y,hy,hyd⟩:=hasB_at hr hh
 have hx1:=touch1_at (lease:=lease) (at_:=at_) (u:=true) (v:=true) hy hh
 generalize bIdx bl dg=j at*
 have hlt3:=(List.getElem?_eq_some_iff.1 hy).1
 have hL:=lt_t hlt3
 have q1:(rowF fBlob bl).length=bl.length*5:=row_len (sz:=5) (fun _=>rfl)
 have p2:(j*5+2+1≤bl.length*5)=True:=by rw[eq_iff_iff,iff_true];omega
 have dk:decide ((j:Int)≥0)=true:=dcT (by omega)
 have dk2:decide ((0:Int)≤(j:Int))=true:=dcT (by omega)
 have e1:=row_set1 (enc:=fBlob) (sz:=5) (j:=2) (y:=tchB lease at_ true false y) (v:= .int .i64 at_) (fun _=>rfl) hy (by omega) rfl
 rw[splice_1]at e1
 have hLs:=leaseR_f room lease (bl.set j (tchB lease at_ true false y)) en j (tchB lease at_ true false y) at_ (by rw[List.length_set];exact hb) (by rw[List.getElem?_set_self hlt3])
 rw[List.set_set,show tchB lease at_ false true (tchB lease at_ true false y)=tchB lease at_ true true y from rfl,← hx1,List.length_set]at hLs
 have hl3:(bl.set j (tchB lease at_ true false y)).length=bl.length:=List.length_set
 have hl4:(touch1 lease at_ true true bl dg).length=bl.length:=by rw[hx1];exact List.length_set
 generalize bl.set j (tchB lease at_ true false y)=B1 at*
 generalize touch1 lease at_ true true bl dg=B2 at*
 unfold PutF
 rw[hl4]
 replace hyd:=hide hyd
 replace hx1:=hide hx1
 replace hLs:=hide hLs
 replace hl3:=hide hl3
 replace hl4:=hide hl4
 clear hy hr hh
 refine FCall.of_ax low_ref7_putBlob ?_
 dsimp only[jm,ji,jf,jl,jL,jn,je,jx,jT,jC,jB,jq,jt,ju,jA,km,kf,kl,kn,kx,l_ref7_putBlob,aEv,frStrs]
 refine zs ?_
 repeat'(first|(simp -implicitDefEqProofs only[*,zr,seval,reduceIte,reduceCtorEq])|(apply zk<;>intro hc)|(refine zp ?_)|(refine zd ?_)|fail)
 refine gG hB ⟨fz_pc rfl rfl rfl,fz_f,trivial⟩ ?_
 clear hB
 repeat'(first|(simp -implicitDefEqProofs only[*,addFp_wr,wrL_3,zr,seval,reduceIte,reduceCtorEq])|(apply zk<;>intro hc)|(refine zp ?_)|(refine zd ?_)|fail)
 refine gP hLs.out 100001 1 [.f (.int .i64 room),.f (.int .i64 lease),.sl 80000 1 5 0 bl.length,.sl 81000 1 3 0 en.length] [] [.f (.int .i64 (j:Nat)),.f (.int .i64 at_)] ?_ (hpc:=⟨rfl,rfl,.inr ⟨80000,1,rfl,rfl,lenB hl3.out⟩,.inr ⟨81000,1,rfl,rfl,lenE rfl⟩,rfl⟩)
 repeat'(first|(simp -implicitDefEqProofs only[*,addFp_wr,zr,seval,reduceIte,reduceCtorEq])|(apply zk<;>intro hc)|(refine zp ?_)|(refine zd ?_)|fail)
 exact end_a rfl rfl rfl (lenB hl4.out) (lenE rfl)
theorem put_big (room lease:Int) (bl:List Blob) (en:List Entry) (e:Ev) (hb:bl.length≤1000000) (hh:hasB bl e.2.2.1=false) (hs:room<e.2.2.2.2.2):PutF room lease bl en e bl false (.v .nil) 0:=by
 obtain⟨kind,at_,dg,ds,key,size⟩:=e
 dsimp only at hh hs
 have hB:=blobR_f (room,lease,bl,en) dg (by show(bl.length:Int)≤_;omega)
 rw[show firstK (fun b:Blob=>b.1) (room,lease,bl,en).2.2.1 dg = -1 from firstK_hasnt hh]at hB
 have d1:decide (size > room)=true:=dcT hs
 have d2:decide (room<size)=true:=dcT hs
 replace hs:=hide hs
 refine FCall.of_ax low_ref7_putBlob ?_
 dsimp only[jm,ji,jf,jl,jL,jn,je,jx,jT,jC,jB,jq,jt,ju,jA,km,kf,kl,kn,kx,l_ref7_putBlob,aEv,frStrs]
 refine zs ?_
 repeat'(first|(simp -implicitDefEqProofs only[*,zr,seval,reduceIte,reduceCtorEq])|(apply zk<;>intro hc)|(refine zp ?_)|(refine zd ?_)|fail)
 refine gG hB ⟨fz_pc rfl rfl rfl,fz_f,trivial⟩ ?_
 repeat'(first|(simp -implicitDefEqProofs only[*,addFp_wr,zr,seval,reduceIte,reduceCtorEq])|(apply zk<;>intro hc)|(refine zp ?_)|(refine zd ?_)|fail)
 exact end_a rfl rfl rfl (lenB rfl) (lenE rfl)
set_option maxHeartbeats 4000000 in
theorem put_no (room lease:Int) (bl:List Blob) (en:List Entry) (e:Ev) (hb:bl.length≤100000) (hsz:∀ b∈bl,0≤b.2.1∧b.2.1≤100000000) (hh:hasB bl e.2.2.1=false) (hs:e.2.2.2.2.2≤room) (hw:IntKind.i64.wrap (room - e.2.2.2.2.2)=room - e.2.2.2.2.2) (hn:room - e.2.2.2.2.2<stayTo bl e.2.1 bl.length):PutF room lease bl en e bl false (.v .nil) 0:=by
 obtain⟨kind,at_,dg,ds,key,size⟩:=e
 dsimp only at hh hs hn hw
 have hB:=blobR_f (room,lease,bl,en) dg (by show(bl.length:Int)≤_;omega)
 rw[show firstK (fun b:Blob=>b.1) (room,lease,bl,en).2.2.1 dg = -1 from firstK_hasnt hh]at hB
 have hsp:=spaceR_no room lease bl en (room - size) at_ hb hsz hn
 have d1:decide (size > room)=false:=dcF (by omega)
 have d2:decide (room<size)=false:=dcF (by omega)
 clear hs hsz hn hb
 replace hsp:=hide hsp
 refine FCall.of_ax low_ref7_putBlob ?_
 dsimp only[jm,ji,jf,jl,jL,jn,je,jx,jT,jC,jB,jq,jt,ju,jA,km,kf,kl,kn,kx,l_ref7_putBlob,aEv,frStrs]
 refine zs ?_
 repeat'(first|(simp -implicitDefEqProofs only[*,zr,seval,reduceIte,reduceCtorEq])|(apply zk<;>intro hc)|(refine zp ?_)|(refine zd ?_)|fail)
 refine gG hB ⟨fz_pc rfl rfl rfl,fz_f,trivial⟩ ?_
 repeat'(first|(simp -implicitDefEqProofs only[*,addFp_wr,zr,seval,reduceIte,reduceCtorEq])|(apply zk<;>intro hc)|(refine zp ?_)|(refine zd ?_)|fail)
 refine gDP hsp.out 100001 1 [.f (.int .i64 room),.f (.int .i64 lease),.sl 80000 1 5 0 bl.length,.sl 81000 1 3 0 en.length] [] [.f (.int .i64 (room - size)),.f (.int .i64 at_)] ?_
 repeat'(first|(simp -implicitDefEqProofs only[*,addFp_wr,zr,seval,reduceIte,reduceCtorEq])|(apply zk<;>intro hc)|(refine zp ?_)|(refine zd ?_)|fail)
 exact end_a rfl rfl rfl (lenB rfl) (lenE rfl)
set_option maxHeartbeats 4000000 in
theorem put_full (room lease:Int) (bl:List Blob) (en:List Entry) (e:Ev) (hb:bl.length≤3000) (hsz:∀ b∈bl,0≤b.2.1∧b.2.1≤100000000) (hr:Rising (fun b:Blob=>b.1) bl) (hh:hasB bl e.2.2.1=false) (hs:e.2.2.2.2.2≤room) (hw:IntKind.i64.wrap (room - e.2.2.2.2.2)=room - e.2.2.2.2.2) (hn:stayTo bl e.2.1 bl.length≤room - e.2.2.2.2.2) (hK:3000≤(keptV bl e.2.1 (sumSz bl - (room - e.2.2.2.2.2))).length) :
  PutF room lease bl en e (keptV bl e.2.1 (sumSz bl - (room - e.2.2.2.2.2))) false (.v .nil) 16:=by
 obtain⟨kind,at_,dg,ds,key,size⟩:=e
 dsimp only at hh hs hn hw hK ⊢
 have hB:=blobR_f (room,lease,bl,en) dg (by show(bl.length:Int)≤_;omega)
 rw[show firstK (fun b:Blob=>b.1) (room,lease,bl,en).2.2.1 dg = -1 from firstK_hasnt hh]at hB
 have hsp:=spaceR_yes room lease bl en (room - size) at_ (by omega) hsz (riseB_of hr) hn
 have hRK:Rising (fun b:Blob=>b.1) (keptV bl at_ (sumSz bl - (room - size))):=rising_keepB hr
 have hbK:(keptV bl at_ (sumSz bl - (room - size))).length≤bl.length:=List.length_filter_le _ _
 change FRetP _ _ _ _ _ [_,_,.own 5 (keptV bl at_ (sumSz bl - (room - size))).length (rowF fBlob (keptV bl at_ (sumSz bl - (room - size)))),_] _ at hsp
 have d1:decide (size > room)=false:=dcF (by omega)
 have d2:decide (room<size)=false:=dcF (by omega)
 generalize keptV bl at_ (sumSz bl - (room - size))=K at*
 generalize clrGone bl at_ (sumSz bl - (room - size))=G at*
 have d3:decide ((K.length:Int)=3000)=true:=dcT (by omega)
 clear hs hsz hn hb hr hRK hbK hK
 replace hsp:=hide hsp
 refine FCall.of_ax low_ref7_putBlob ?_
 dsimp only[jm,ji,jf,jl,jL,jn,je,jx,jT,jC,jB,jq,jt,ju,jA,km,kf,kl,kn,kx,l_ref7_putBlob,aEv,frStrs]
 refine zs ?_
 repeat'(first|(simp -implicitDefEqProofs only[*,zr,seval,reduceIte,reduceCtorEq])|(apply zk<;>intro hc)|(refine zp ?_)|(refine zd ?_)|fail)
 refine gG hB ⟨fz_pc rfl rfl rfl,fz_f,trivial⟩ ?_
 repeat'(first|(simp -implicitDefEqProofs only[*,addFp_wr,zr,seval,reduceIte,reduceCtorEq])|(apply zk<;>intro hc)|(refine zp ?_)|(refine zd ?_)|fail)
 refine gDP hsp.out 100001 1 [.f (.int .i64 room),.f (.int .i64 lease),.sl 80000 1 5 0 bl.length,.sl 81000 1 3 0 en.length] [] [.f (.int .i64 (room - size)),.f (.int .i64 at_)] ?_
 repeat'(first|(simp -implicitDefEqProofs only[*,addFp_wr,zr,seval,reduceIte,reduceCtorEq])|(apply zk<;>intro hc)|(refine zp ?_)|(refine zd ?_)|fail)
 exact end_a rfl rfl rfl (lenB rfl) (lenE rfl)
set_option maxHeartbeats 8000000 in
theorem put_new (room lease:Int) (bl:List Blob) (en:List Entry) (e:Ev) (hb:bl.length≤3000) (hsz:∀ b∈bl,0≤b.2.1∧b.2.1≤100000000) (hr:Rising (fun b:Blob=>b.1) bl) (hh:hasB bl e.2.2.1=false) (hs:e.2.2.2.2.2≤room) (hw:IntKind.i64.wrap (room - e.2.2.2.2.2)=room - e.2.2.2.2.2) (hn:stayTo bl e.2.1 bl.length≤room - e.2.2.2.2.2) (hK:(keptV bl e.2.1 (sumSz bl - (room - e.2.2.2.2.2))).length<3000) :
  PutF room lease bl en e (insV (keptV bl e.2.1 (sumSz bl - (room - e.2.2.2.2.2))) (newB lease e.2.1 e.2.2.1 e.2.2.2.2.2)) true (rcS (clrGone bl e.2.1 (sumSz bl - (room - e.2.2.2.2.2)))) 0:=by
 obtain⟨kind,at_,dg,ds,key,size⟩:=e
 dsimp only at hh hs hn hw hK ⊢
 have hB:=blobR_f (room,lease,bl,en) dg (by show(bl.length:Int)≤_;omega)
 rw[show firstK (fun b:Blob=>b.1) (room,lease,bl,en).2.2.1 dg = -1 from firstK_hasnt hh]at hB
 have hsp:=spaceR_yes room lease bl en (room - size) at_ (by omega) hsz (riseB_of hr) hn
 have hRK:Rising (fun b:Blob=>b.1) (keptV bl at_ (sumSz bl - (room - size))):=rising_keepB hr
 have hbK:(keptV bl at_ (sumSz bl - (room - size))).length≤bl.length:=List.length_filter_le _ _
 change FRetP _ _ _ _ _ [_,_,.own 5 (keptV bl at_ (sumSz bl - (room - size))).length (rowF fBlob (keptV bl at_ (sumSz bl - (room - size)))),_] _ at hsp
 have d1:decide (size > room)=false:=dcF (by omega)
 have d2:decide (room<size)=false:=dcF (by omega)
 generalize keptV bl at_ (sumSz bl - (room - size))=K at*
 generalize clrGone bl at_ (sumSz bl - (room - size))=G at*
 have d3:decide ((K.length:Int)=3000)=false:=dcF (by omega)
 clear hs hsz hn hr
 replace hsp:=hide hsp
 have hR:=hide hRK
 clear hRK
 refine FCall.of_ax low_ref7_putBlob ?_
 dsimp only[jm,ji,jf,jl,jL,jn,je,jx,jT,jC,jB,jq,jt,ju,jA,km,kf,kl,kn,kx,l_ref7_putBlob,aEv,frStrs]
 refine zs ?_
 repeat'(first|(simp -implicitDefEqProofs only[*,zr,seval,reduceIte,reduceCtorEq])|(apply zk<;>intro hc)|(refine zp ?_)|(refine zd ?_)|fail)
 refine gG hB ⟨fz_pc rfl rfl rfl,fz_f,trivial⟩ ?_
 clear hB
 repeat'(first|(simp -implicitDefEqProofs only[*,addFp_wr,zr,seval,reduceIte,reduceCtorEq])|(apply zk<;>intro hc)|(refine zp ?_)|(refine zd ?_)|fail)
 refine gDP hsp.out 100001 1 [.f (.int .i64 room),.f (.int .i64 lease),.sl 80000 1 5 0 bl.length,.sl 81000 1 3 0 en.length] [] [.f (.int .i64 (room - size)),.f (.int .i64 at_)] ?_
 clear hsp
 repeat'(first|(simp -implicitDefEqProofs only[*,addFp_wr,zr,seval,reduceIte,reduceCtorEq])|(apply zk<;>intro hc)|(refine zp ?_)|(refine zd ?_)|fail)
 refine ax_loopU (S:=Nat) 124 [0,3,4,7] [3,4,51,1051,2051,100001] (fun s=>[(9,.f (.int .i64 s))]) (fun s=>[]) (fun s=>s≤K.length∧∀ (m:Nat) z,m<s→K[m]? = some z→strLt z.1 dg=true) (fun s=>K.length - s) (0) [] ?_ ?_ fun s hs=> ?_
 ·exact⟨Nat.zero_le _,fun m z h=>absurd h (by omega)⟩
 ·refine wk_i ?_ ?_<;>simp only[zw,seval,reduceIte,reduceCtorEq]
 obtain⟨hk1,hk2⟩:=hs
 have hKs:=hide hk2
 clear hk2
 refine zs ?_
 have q0:(rowF fBlob K).length=K.length*5:=row_len (sz:=5) (fun _=>rfl)
 have hend:(s<K.length∧∃ z,K[s]? = some z∧strLt z.1 dg=true)∨(s<K.length∧∃ z,K[s]? = some z∧strLt z.1 dg=false)∨s=K.length:=by
  rcases Nat.lt_or_ge s K.length with h|h
  ·obtain⟨z,hz⟩:=get_some h
   cases hl:strLt z.1 dg
   ·exact .inr (.inl ⟨h,z,hz,hl⟩)
   ·exact .inl ⟨h,z,hz,hl⟩
  ·exact .inr (.inr (by omega))
 rcases hend with⟨hl2,z,hz,hzl⟩|hend
 ·have h6:=inc64 hl2 (by omega)
  have h5:=lt_t hl2
  have h5i:decide ((s:Int)<(K.length:Int))=true:=dcT (by omega)
  have c0:=row_cell (enc:=fBlob) (sz:=5) (j:=0) (fun _=>rfl) hz (show _=some (FV.str z.1)from rfl)
  have p0:(s*5+0+1≤K.length*5)=True:=by rw[eq_iff_iff,iff_true];omega
  have p1:(s*5+1≤K.length*5)=True:=by rw[eq_iff_iff,iff_true];omega
  rw[Nat.add_zero]at c0
  have hn:∀ (m:Nat) w,m<s+1→K[m]? = some w→strLt w.1 dg=true:=fun m w hm hw=>by
   rcases Nat.lt_succ_iff_lt_or_eq.1 hm with h1|rfl
   ·exact hKs.out m w h1 hw
   ·rw[hz]at hw;obtain rfl:=Option.some.inj hw;exact hzl
  replace hn:=hide hn
  repeat'(first|(simp -implicitDefEqProofs only[*,addFp_wr,zr,seval,reduceIte,reduceCtorEq])|(apply zk<;>intro hc)|(refine zp ?_)|(refine zd ?_)|fail)
  refine⟨s+1,⟨hl2,hn.out⟩,by omega,?_⟩
  refine wk_i ?_ ?_<;>simp only[zw,seval,reduceIte,reduceCtorEq]
 have hk:=bs_lin2 (key:=fun b:Blob=>b.1) hR.out hk1 hKs.out (hend.symm.imp (fun h=>h) fun h=>h.2)
 change bIdx K dg=s at hk
 obtain⟨k,hkk⟩:∃ k:Nat,k=s:=⟨_,rfl⟩
 have e0:insV K (newB lease at_ dg size)=K.take k++newB lease at_ dg size::K.drop k:=by unfold insV;rw[show(newB lease at_ dg size).1=dg from rfl,hk,← hkk]
 have e1:rowF fBlob (insV K (newB lease at_ dg size))=rowF fBlob (K.take k)++(fBlob (newB lease at_ dg size)++rowF fBlob (K.drop k)):=by rw[e0,row_app,row_cons]
 have hil:(insV K (newB lease at_ dg size)).length=K.length+1:=by rw[e0,List.length_append,List.length_cons,List.length_take,List.length_drop];omega
 have hkl:k≤K.length:=by omega
 obtain⟨T1,hT1⟩:∃ T,List.take (s*5) ((rowF fBlob K).map AV.f)=T:=⟨_,rfl⟩
 obtain⟨T2,hT2⟩:∃ T,List.take ((K.length - s)*5) (List.drop (s*5) ((rowF fBlob K).map AV.f))=T:=⟨_,rfl⟩
 have k1:T1=(rowF fBlob (K.take k)).map AV.f:=by rw[← hT1,← List.map_take,row_take (sz:=5) (fun _=>rfl),hkk]
 have k2:T2=(rowF fBlob (K.drop k)).map AV.f:=by
  rw[← hT2,← List.map_drop,row_drop (sz:=5) (fun _=>rfl),List.take_of_length_le,hkk]
  rw[List.length_map,row_len (sz:=5) (fun _=>rfl),List.length_drop];exact Nat.le_refl _
 have k3:T1.length=s*5:=by rw[k1,List.length_map,row_len (sz:=5) (fun _=>rfl),List.length_take];omega
 have k5:T2.length=(K.length - s)*5:=by rw[k2,List.length_map,row_len (sz:=5) (fun _=>rfl),List.length_drop];omega
 have g1:((s:Int)≤(K.length:Int))=True:=by rw[eq_iff_iff,iff_true];omega
 have g4:((K.length:Int)≤(K.length:Int))=True:=by rw[eq_iff_iff,iff_true];omega
 have g5:(s*5≤K.length*5)=True:=by rw[eq_iff_iff,iff_true];omega
 have g6:((s+(K.length - s))*5≤K.length*5)=True:=by rw[eq_iff_iff,iff_true];omega
 have g7:(s*48≤140737488355328)=True:=by rw[eq_iff_iff,iff_true];omega
 have g8:((s+1)*48≤140737488355328)=True:=by rw[eq_iff_iff,iff_true];omega
 have g9:s+1+(K.length - s)=K.length+1:=by omega
 have g10:((K.length+1)*48≤140737488355328)=True:=by rw[eq_iff_iff,iff_true];omega
 have g11:s*5+5=(s+1)*5:=by omega
 have kk:T1++ [AV.f (FV.str dg),AV.f (FV.int .i64 size),AV.f (FV.int .i64 at_),AV.f (FV.int .i64 (IntKind.i64.wrap (at_+lease))),AV.f (FV.int .i64 0)]++T2=(rowF fBlob (insV K (newB lease at_ dg size))).map AV.f:=by rw[k1,k2,e1,List.map_append,List.map_append,List.append_assoc];rfl
 generalize insV K (newB lease at_ dg size)=K2 at*
 clear k1 k2 e0 e1 hk hkl hkk hbK hK hb
 replace kk:=hide kk
 replace hil:=hide hil
 rcases hend with⟨hl2,z,hz,hzl⟩|rfl
 ·have h5:=lt_t hl2
  have h5i:decide ((s:Int)<(K.length:Int))=true:=dcT (by omega)
  have c0:=row_cell (enc:=fBlob) (sz:=5) (j:=0) (fun _=>rfl) hz (show _=some (FV.str z.1)from rfl)
  have p0:(s*5+0+1≤K.length*5)=True:=by rw[eq_iff_iff,iff_true];omega
  have p1:(s*5+1≤K.length*5)=True:=by rw[eq_iff_iff,iff_true];omega
  rw[Nat.add_zero]at c0
  clear hz
  repeat'(first|(simp -implicitDefEqProofs only[*,addFp_wr,fBlob,List.map_cons,List.map_nil,List.length_map,Nat.sub_zero,List.length_append,List.length_cons,List.length_nil,zr,seval,reduceIte,reduceCtorEq])|(apply zk<;>intro hc)|(refine zp ?_)|(refine zd ?_)|fail)
  rw[hil.out]
  exact end_ga rfl (congrArg some kk.out) rfl (lenB hil.out) (lenE rfl) rfl
 ·have h5:=lt_f (Nat.le_refl K.length)
  have h5i:decide ((K.length:Int)<(K.length:Int))=false:=dcF (by omega)
  repeat'(first|(simp -implicitDefEqProofs only[*,addFp_wr,fBlob,List.map_cons,List.map_nil,List.length_map,Nat.sub_zero,List.length_append,List.length_cons,List.length_nil,zr,seval,reduceIte,reduceCtorEq])|(apply zk<;>intro hc)|(refine zp ?_)|(refine zd ?_)|fail)
  rw[hil.out]
  exact end_ga rfl (congrArg some kk.out) rfl (lenB hil.out) (lenE rfl) rfl
end Go.Proofs.YtfajjcmagngfiaaGreatDoor
