/-
  The reference's one. No statement of the seat is proved here; no conditions.
-/
import Derived.Test.YtfajjcmagngfiaaGreatDoorRd2
import Derived.Test.YtfajjcmagngfiaaGreatDoorDo
namespace Go.Proofs.YtfajjcmagngfiaaGreatDoor
open Go.RowKit Go.Shelf
set_option linter.unusedVariables false
set_option linter.unusedSimpArgs false
set_option maxRecDepth 100000

section
variable {P:Program}{R:Env→Heap→Prop}{Λ : Lams}{k:List It}{env:Env}{H:Heap}{d j:Nat}{f:Operand}{args:List Operand}{g:Option (Nat × Bool)}{los:List LO}{dos:List DO}{acc:List Fp}{od:List Nat}{fid:FuncId}{rs:List RS}{room lease:Int}{bl:List Blob}{en:List Entry}{tl:List FV}{i1 v1 i2 v2:Nat}
theorem gDB {id ver:Nat}(hF:FRet P fid (.f (pCache (room,lease,bl,en))::tl.map .f) rs) (hfn:evA env f=.f (.fn (.func fid))) (ha:args.map (evA env)=.ptr id ver 0::tl.map .f)
  (h:srun P R 300 Λ (.dops dos (j+1) (addFp j [id,i1,i2] (wrL d (nextSs 0 rs)) acc)::k) (putE env (some d) (oneOrTup (putS d 0 rs))) (putHs d 0 rs H)) (hc:cellsOf ver (H id)=some [.f (.int .i64 room),.f (.int .i64 lease),.sl i1 v1 5 0 bl.length,.sl i2 v2 3 0 en.length]:=by rfl) (h1:cellsOf v1 (H i1)=some ((rowF fBlob bl).map .f):=by rfl) (h2:cellsOf v2 (H i2)=some ((rowF fEntry en).map .f):=by rfl) (hg:gd g env=some true:=by rfl) (hp:rs.all (RS.all FV.plain)=true:=by first|rfl|(simp [RS.all,RC.all,FV.plain];done)) (hfree:Free d H:=by first|exact free_0|exact free_mk rfl|(repeat (first|exact free_0|exact free_mk rfl|exact free_mk (by first|(simp;done)|fail)|refine free_upd rfl ?_|refine free_kill ?_));first|done|fail) (hk:noConf acc od [id,i1,i2] (wrL d (nextSs 0 rs))=true:=by rfl):Ax P R Λ (.dops (⟨some d,.call f args,g,od⟩::dos) j acc::k) env H:=
 callDG [id,i1,i2] hg hF hfn (fun H2 hh=>by rw[ha];exact⟨fz_pc (by rw[hh id (by simp)];exact hc) (by rw[hh i1 (by simp)];exact h1) (by rw[hh i2 (by simp)];exact h2),fzs_fs tl⟩) hp hfree hk h
end
def OneF (room lease:Int) (bl:List Blob) (en:List Entry) (e:Ev) (r:List Blob) (b:Bool) (g:RC):Prop:=
 FRetP Tryz.prog 58 [.v (.int .i64 room),.v (.int .i64 lease),.own 5 bl.length (rowF fBlob bl),.own 3 en.length (rowF fEntry en)] [] [aEv e]
   [.v (.int .i64 room),.v (.int .i64 lease),.own 5 r.length (rowF fBlob r),.own 3 en.length (rowF fEntry en)] [rAnsM b (.v .nil) g]
theorem one_no (room lease:Int) (bl:List Blob) (en:List Entry) (e:Ev) (hb:bl.length≤1000000) (hh:hasB bl e.2.2.1=false):OneF room lease bl en e bl false (.v .nil):=by
 obtain⟨kind,at_,dg,ds,key,size⟩:=e
 dsimp only at hh
 have hB:=blobR_f (room,lease,bl,en) dg (by show(bl.length:Int)≤_;omega)
 rw[show firstK (fun b:Blob=>b.1) (room,lease,bl,en).2.2.1 dg = -1 from firstK_hasnt hh]at hB
 refine FCall.of_ax low_ref7_one ?_
 dsimp only[jm,ji,jf,jl,jL,jn,je,jx,jT,jC,jB,jq,jt,ju,jA,km,kf,kl,kn,kx,l_ref7_one,aEv,frStrs]
 refine zs ?_
 repeat'(first|(simp -implicitDefEqProofs only[*,zr,seval,reduceIte,reduceCtorEq])|(apply zk<;>intro hc)|(refine zp ?_)|(refine zd ?_)|fail)
 refine gG hB ⟨fz_pc rfl rfl rfl,fz_f,trivial⟩ ?_
 repeat'(first|(simp -implicitDefEqProofs only[*,addFp_wr,zr,seval,reduceIte,reduceCtorEq])|(apply zk<;>intro hc)|(refine zp ?_)|(refine zd ?_)|fail)
 exact end_1 rfl rfl rfl (lenB rfl) (lenE rfl)
set_option maxHeartbeats 4000000 in
theorem one_get (room lease:Int) (bl:List Blob) (en:List Entry) (e:Ev) (hb:bl.length≤1000000) (hr:Rising (fun b:Blob=>b.1) bl) (hk:e.1=2) (hh:hasB bl e.2.2.1=true):OneF room lease bl en e (touch1 lease e.2.1 true true bl e.2.2.1) true (.v .nil):=by
 obtain⟨kind,at_,dg,ds,key,size⟩:=e
 dsimp only at hh hk ⊢
 subst hk
 have hB:=blobR_f (room,lease,bl,en) dg (by show(bl.length:Int)≤_;omega)
 rw[show firstK (fun b:Blob=>b.1) (room,lease,bl,en).2.2.1 dg=(bIdx bl dg:Nat)from firstB hr hh]at hB
 obtain⟨y,hy,hyd⟩:=hasB_at hr hh
 have hx1:=touch1_at (lease:=lease) (at_:=at_) (u:=true) (v:=true) hy hh
 generalize bIdx bl dg=j at*
 have hlt3:=(List.getElem?_eq_some_iff.1 hy).1
 have hL:=lt_t hlt3
 have q1:(rowF fBlob bl).length=bl.length*5:=row_len (sz:=5) (fun _=>rfl)
 have p2:(j*5+2+1≤bl.length*5)=True:=by rw[eq_iff_iff,iff_true];omega
 have dk:decide ((j:Int)<0)=false:=dcF (by omega)
 have e1:=row_set1 (enc:=fBlob) (sz:=5) (j:=2) (y:=tchB lease at_ true false y) (v:= .int .i64 at_) (fun _=>rfl) hy (by omega) rfl
 rw[splice_1]at e1
 have hLs:=leaseR_f room lease (bl.set j (tchB lease at_ true false y)) en j (tchB lease at_ true false y) at_ (by rw[List.length_set];exact hb) (by rw[List.getElem?_set_self hlt3])
 rw[List.set_set,show tchB lease at_ false true (tchB lease at_ true false y)=tchB lease at_ true true y from rfl,← hx1,List.length_set]at hLs
 have hl3:(bl.set j (tchB lease at_ true false y)).length=bl.length:=List.length_set
 have hl4:(touch1 lease at_ true true bl dg).length=bl.length:=by rw[hx1];exact List.length_set
 generalize bl.set j (tchB lease at_ true false y)=B1 at*
 generalize touch1 lease at_ true true bl dg=B2 at*
 unfold OneF
 rw[hl4]
 replace hyd:=hide hyd
 replace hx1:=hide hx1
 replace hLs:=hide hLs
 replace hl3:=hide hl3
 replace hl4:=hide hl4
 clear hy hr hh
 refine FCall.of_ax low_ref7_one ?_
 dsimp only[jm,ji,jf,jl,jL,jn,je,jx,jT,jC,jB,jq,jt,ju,jA,km,kf,kl,kn,kx,l_ref7_one,aEv,frStrs]
 refine zs ?_
 repeat'(first|(simp -implicitDefEqProofs only[*,zr,seval,reduceIte,reduceCtorEq])|(apply zk<;>intro hc)|(refine zp ?_)|(refine zd ?_)|fail)
 refine gG hB ⟨fz_pc rfl rfl rfl,fz_f,trivial⟩ ?_
 clear hB
 repeat'(first|(simp -implicitDefEqProofs only[*,addFp_wr,wrL_3,zr,seval,reduceIte,reduceCtorEq])|(apply zk<;>intro hc)|(refine zp ?_)|(refine zd ?_)|fail)
 refine gP hLs.out 100001 1 [.f (.int .i64 room),.f (.int .i64 lease),.sl 80000 1 5 0 bl.length,.sl 81000 1 3 0 en.length] [] [.f (.int .i64 (j:Nat)),.f (.int .i64 at_)] ?_ (hpc:=⟨rfl,rfl,.inr ⟨80000,1,rfl,rfl,lenB hl3.out⟩,.inr ⟨81000,1,rfl,rfl,lenE rfl⟩,rfl⟩)
 repeat'(first|(simp -implicitDefEqProofs only[*,addFp_wr,zr,seval,reduceIte,reduceCtorEq])|(apply zk<;>intro hc)|(refine zp ?_)|(refine zd ?_)|fail)
 exact end_1 rfl rfl rfl (lenB hl4.out) (lenE rfl)
set_option maxHeartbeats 4000000 in
theorem one_pin (room lease:Int) (bl:List Blob) (en:List Entry) (e:Ev) (hb:bl.length≤1000000) (hr:Rising (fun b:Blob=>b.1) bl) (hk:e.1=4∨e.1=5) (hh:hasB bl e.2.2.1=true) (hq:(pinV e.1 bl e.2.2.1).2.2=0):OneF room lease bl en e (pinV e.1 bl e.2.2.1).1 (pinV e.1 bl e.2.2.1).2.1 (.v .nil):=by
 obtain⟨kind,at_,dg,ds,key,size⟩:=e
 dsimp only at hh hk hq ⊢
 have hB:=blobR_f (room,lease,bl,en) dg (by show(bl.length:Int)≤_;omega)
 rw[show firstK (fun b:Blob=>b.1) (room,lease,bl,en).2.2.1 dg=(bIdx bl dg:Nat)from firstB hr hh]at hB
 obtain⟨y,hy,hyd⟩:=hasB_at hr hh
 have hP:pinV kind bl dg=if kind=5 then(if y.2.2.2.2=0 then(bl,false,0)else(bl.set (bIdx bl dg) (pinB kind y),true,0))else if 3000≤y.2.2.2.2 then(bl,false,16)else(bl.set (bIdx bl dg) (pinB kind y),true,0):=by
  unfold pinV
  rw[hy,hh];rfl
 rw[hP]at hq ⊢
 clear hP
 generalize bIdx bl dg=j at*
 have hlt3:=(List.getElem?_eq_some_iff.1 hy).1
 have hL:=lt_t hlt3
 have q1:(rowF fBlob bl).length=bl.length*5:=row_len (sz:=5) (fun _=>rfl)
 have p4:(j*5+4+1≤bl.length*5)=True:=by rw[eq_iff_iff,iff_true];omega
 have c4:=row_cell (enc:=fBlob) (sz:=5) (j:=4) (fun _=>rfl) hy rfl
 have dk:decide ((j:Int)<0)=false:=dcF (by omega)
 unfold OneF
 replace hyd:=hide hyd
 clear hr hh
 refine FCall.of_ax low_ref7_one ?_
 dsimp only[jm,ji,jf,jl,jL,jn,je,jx,jT,jC,jB,jq,jt,ju,jA,km,kf,kl,kn,kx,l_ref7_one,aEv,frStrs]
 rcases hk with rfl|rfl
 ·rw[if_neg (by decide)]at hq ⊢
  by_cases hz:3000≤y.2.2.2.2
  ·rw[if_pos hz]at hq;cases hq
  rw[if_neg hz]
  have e1:=row_set1 (enc:=fBlob) (sz:=5) (j:=4) (y:=pinB 4 y) (v:= .int .i64 (IntKind.i64.wrap (y.2.2.2.2+1))) (fun _=>rfl) hy (by omega) rfl
  rw[splice_1]at e1
  have hl4:(bl.set j (pinB 4 y)).length=bl.length:=List.length_set
  dsimp only
  rw[hl4]
  generalize bl.set j (pinB 4 y)=B2 at*
  replace hl4:=hide hl4
  replace hz:=hide hz
  clear hq hy
  refine zs ?_
  repeat'(first|(simp -implicitDefEqProofs only[*,zr,seval,reduceIte,reduceCtorEq])|(apply zk<;>intro hc)|(refine zp ?_)|(refine zd ?_)|fail)
  refine gG hB ⟨fz_pc rfl rfl rfl,fz_f,trivial⟩ ?_
  clear hB
  repeat'(first|(simp -implicitDefEqProofs only[*,addFp_wr,wrL_3,zr,seval,reduceIte,reduceCtorEq])|(apply zk<;>intro hc)|(refine zp ?_)|(refine zd ?_)|fail)
  exact end_1 rfl rfl rfl (lenB hl4.out) (lenE rfl)
 ·rw[if_pos rfl]at hq ⊢
  by_cases hz:y.2.2.2.2=0
  ·rw[if_pos hz]
   have dz:decide (y.2.2.2.2=0)=true:=dcT hz
   replace hz:=hide hz
   clear hq hy
   refine zs ?_
   repeat'(first|(simp -implicitDefEqProofs only[*,zr,seval,reduceIte,reduceCtorEq])|(apply zk<;>intro hc)|(refine zp ?_)|(refine zd ?_)|fail)
   refine gG hB ⟨fz_pc rfl rfl rfl,fz_f,trivial⟩ ?_
   clear hB
   repeat'(first|(simp -implicitDefEqProofs only[*,addFp_wr,wrL_3,zr,seval,reduceIte,reduceCtorEq])|(apply zk<;>intro hc)|(refine zp ?_)|(refine zd ?_)|fail)
   exact end_1 rfl rfl rfl (lenB rfl) (lenE rfl)
  ·rw[if_neg hz]
   have dz:decide (y.2.2.2.2=0)=false:=dcF hz
   have e1:=row_set1 (enc:=fBlob) (sz:=5) (j:=4) (y:=pinB 5 y) (v:= .int .i64 (IntKind.i64.wrap (y.2.2.2.2 - 1))) (fun _=>rfl) hy (by omega) rfl
   rw[splice_1]at e1
   have hl4:(bl.set j (pinB 5 y)).length=bl.length:=List.length_set
   dsimp only
   rw[hl4]
   generalize bl.set j (pinB 5 y)=B2 at*
   replace hl4:=hide hl4
   replace hz:=hide hz
   clear hq hy
   refine zs ?_
   repeat'(first|(simp -implicitDefEqProofs only[*,zr,seval,reduceIte,reduceCtorEq])|(apply zk<;>intro hc)|(refine zp ?_)|(refine zd ?_)|fail)
   refine gG hB ⟨fz_pc rfl rfl rfl,fz_f,trivial⟩ ?_
   clear hB
   repeat'(first|(simp -implicitDefEqProofs only[*,addFp_wr,wrL_3,zr,seval,reduceIte,reduceCtorEq])|(apply zk<;>intro hc)|(refine zp ?_)|(refine zd ?_)|fail)
   exact end_1 rfl rfl rfl (lenB hl4.out) (lenE rfl)
set_option maxHeartbeats 4000000 in
theorem one_drop (room lease:Int) (bl:List Blob) (en:List Entry) (e:Ev) (hb:bl.length≤1000000) (hr:Rising (fun b:Blob=>b.1) bl) (hk:e.1=8) (hh:hasB bl e.2.2.1=true):OneF room lease bl en e (dropV bl en e.2.1 e.2.2.1).1 (dropV bl en e.2.1 e.2.2.1).2.2.1 (dropV bl en e.2.1 e.2.2.1).2.2.2.2.1:=by
 obtain⟨kind,at_,dg,ds,key,size⟩:=e
 dsimp only at hh hk ⊢
 subst hk
 have hB:=blobR_f (room,lease,bl,en) dg (by show(bl.length:Int)≤_;omega)
 have hfb:=firstB hr hh
 rw[show firstK (fun b:Blob=>b.1) (room,lease,bl,en).2.2.1 dg=(bIdx bl dg:Nat)from hfb]at hB
 obtain⟨y,hy,hyd⟩:=hasB_at hr hh
 have hD:dropV bl en at_ dg=if heldB y at_=true then(bl,en,false,.v .nil,.v .nil,0)else(keepL (fun b:Blob=>hasS b.1 [dg]) bl,en,true,.v .nil,rcS [dg],0):=by
  unfold dropV
  rw[hy,hh]
  show(if (true&& !heldB y at_)=true then _ else _)=_
  cases heldB y at_<;>rfl
 have hkeep:keepL (fun b:Blob=>hasS b.1 [dg]) bl=bl.eraseIdx (bIdx bl dg):=by
  rw[erase_keep (riseB_of hr) hy,hyd]
  unfold keepL
  congr 1
  funext b
  simp [hasS,Bool.eq_iff_iff,eq_comm]
 rw[hD,hkeep]
 clear hD hkeep
 have hlt3:=(List.getElem?_eq_some_iff.1 hy).1
 have hDr:=dropR_f room lease bl en dg (bIdx bl dg) hb hlt3 hfb
 generalize bIdx bl dg=j at*
 have hL:=lt_t hlt3
 have q1:(rowF fBlob bl).length=bl.length*5:=row_len (sz:=5) (fun _=>rfl)
 have hin:(j*5+5≤bl.length*5)=True:=by rw[eq_iff_iff,iff_true];omega
 have hld:=row_get (enc:=fBlob) (sz:=5) (fun _=>rfl) hy
 have dk:decide ((j:Int)<0)=false:=dcF (by omega)
 have hH:=heldR_f y at_
 simp only[fBlob,List.map_cons,List.map_nil]at hld hH
 unfold OneF
 replace hyd:=hide hyd
 replace hDr:=hide hDr
 replace hH:=hide hH
 clear hr hh hfb hy
 refine FCall.of_ax low_ref7_one ?_
 dsimp only[jm,ji,jf,jl,jL,jn,je,jx,jT,jC,jB,jq,jt,ju,jA,km,kf,kl,kn,kx,l_ref7_one,aEv,frStrs]
 cases hhd:heldB y at_
 ·rw[if_neg (by decide)]
  rw[hhd]at hH
  dsimp only
  refine zs ?_
  repeat'(first|(simp -implicitDefEqProofs only[*,zr,seval,reduceIte,reduceCtorEq])|(apply zk<;>intro hc)|(refine zp ?_)|(refine zd ?_)|fail)
  refine gG hB ⟨fz_pc rfl rfl rfl,fz_f,trivial⟩ ?_
  clear hB
  repeat'(first|(simp -implicitDefEqProofs only[*,addFp_wr,wrL_3,zr,seval,reduceIte,reduceCtorEq])|(apply zk<;>intro hc)|(refine zp ?_)|(refine zd ?_)|(refine cP (hH.out) ?_)|(refine cD (hH.out) ?_)|(refine cF (hH.out) ?_)|(refine cO (hH.out) ?_)|fail)
  refine gP hDr.out 100001 1 [.f (.int .i64 room),.f (.int .i64 lease),.sl 80000 1 5 0 bl.length,.sl 81000 1 3 0 en.length] [] [.f (.str dg)] ?_
  repeat'(first|(simp -implicitDefEqProofs only[*,addFp_wr,zr,seval,reduceIte,reduceCtorEq])|(apply zk<;>intro hc)|(refine zp ?_)|(refine zd ?_)|fail)
  exact end_gi rfl rfl rfl (lenB rfl) (lenE rfl) (M:=[dg]) rfl
 ·rw[if_pos rfl]
  rw[hhd]at hH
  dsimp only
  refine zs ?_
  repeat'(first|(simp -implicitDefEqProofs only[*,zr,seval,reduceIte,reduceCtorEq])|(apply zk<;>intro hc)|(refine zp ?_)|(refine zd ?_)|fail)
  refine gG hB ⟨fz_pc rfl rfl rfl,fz_f,trivial⟩ ?_
  clear hB
  repeat'(first|(simp -implicitDefEqProofs only[*,addFp_wr,wrL_3,zr,seval,reduceIte,reduceCtorEq])|(apply zk<;>intro hc)|(refine zp ?_)|(refine zd ?_)|(refine cP (hH.out) ?_)|(refine cD (hH.out) ?_)|(refine cF (hH.out) ?_)|(refine cO (hH.out) ?_)|fail)
  exact end_1 rfl rfl rfl (lenB rfl) (lenE rfl)
end Go.Proofs.YtfajjcmagngfiaaGreatDoor
