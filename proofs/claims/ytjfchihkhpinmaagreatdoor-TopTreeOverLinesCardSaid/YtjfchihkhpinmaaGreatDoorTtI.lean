/-
  The reference's names. No statement of the seat is proved here; no conditions.
-/
import Derived.Test.YtjfchihkhpinmaaGreatDoorTtH
namespace Go.Proofs.YtjfchihkhpinmaaGreatDoor
open Go.RowKit Go.Shelf
set_option linter.unusedVariables false
set_option linter.unusedSimpArgs false
set_option maxRecDepth 100000

theorem insC_cnt {n:List UInt8}{out:List (List UInt8 × Nat)}{m:Nat}(h:∀ y∈out,y.2≤m):∀ y∈insC n out,y.2≤m+1:=fun y hy=>by
 have hins:y∈out.take (Xi n out)++(n,1)::out.drop (Xi n out)→y.2≤m+1:=fun hy=>by
  rcases List.mem_append.1 hy with hy|hy
  ·have:=h y (List.mem_of_mem_take hy);omega
  ·rcases List.mem_cons.1 hy with rfl|hy
   ·exact Nat.le_add_left _ _
   ·have:=h y (List.mem_of_mem_drop hy);omega
 unfold insC at hy
 split at hy
 ·rename_i p c hp
  split at hy
  ·rcases mem_set' hy with rfl|hy
   ·have:=h _ (List.mem_of_getElem? hp)
    exact Nat.succ_le_succ this
   ·have:=h y hy;omega
  ·exact hins hy
 ·exact hins hy
theorem Wl (l:List FT):∀ (s:Nat),∀ y∈Vd (l.take s),y.2≤s
 | 0,y,hy=>by rw[List.take_zero]at hy;cases hy
 | s+1,y,hy=>by
  rcases Nat.lt_or_ge s l.length with hlt|hge
  ·obtain⟨x,hx⟩:=QH hlt
   rw[List.take_add_one,hx]at hy
   rw[show(l.take s++(some x).toList)=l.take s++ [x]from rfl,UU]at hy
   exact insC_cnt (Wl l s) y hy
  ·rw[List.take_of_length_le (by omega)]at hy
   have:=Wl l s y (by rw[List.take_of_length_le hge];exact hy)
   omega
theorem insC_len {n:List UInt8}{out:List (List UInt8 × Nat)} : (insC n out).length≤out.length+1:=by
 have hk:=QCp n out
 have hi:(out.take (Xi n out)++(n,1)::out.drop (Xi n out)).length≤out.length+1:=by
  rw[List.length_append,List.length_cons,List.length_take,List.length_drop];omega
 unfold insC
 split
 ·split
  ·rw[List.length_set];omega
  ·exact hi
 ·exact hi
theorem Jl (l:List FT):∀ (s:Nat),(Vd (l.take s)).length≤s
 | 0=>by rw[List.take_zero];exact Nat.le_refl _
 | s+1=>by
  rcases Nat.lt_or_ge s l.length with hlt|hge
  ·obtain⟨x,hx⟩:=QH hlt
   rw[List.take_add_one,hx,show(l.take s++(some x).toList)=l.take s++ [x]from rfl,UU]
   have:=insC_len (n:=nmL x.1) (out:=Vd (l.take s))
   have:=Jl l s
   omega
  ·have:=Jl l s
   rw[List.take_of_length_le hge]at this
   rw[List.take_of_length_le (by omega)];omega
def fNm (y:List UInt8 × Nat):List FV:=[.str (bs y.1)]
def fCt (y:List UInt8 × Nat):List FV:=[.int .i64 (y.2:Int)]
theorem Zl:∀ out:List (List UInt8 × Nat),rowF fCt out=out.map fun y=>FV.int .i64 (y.2:Int)
 | []=>rfl
 | y::l=>by rw[Qr,Zl l];rfl
theorem QDb {out:List (List UInt8 × Nat)}{s:Nat}{a:List UInt8}{c d:Nat}(h:out[s]? = some (a,c)):(out.set s (a,d)).map fNm=out.map fNm:=by
 rw[List.map_set]
 apply List.ext_getElem?
 intro j
 rw[List.getElem?_set]
 split
 ·rename_i hj
  subst hj
  rw[List.getElem?_map,h,List.length_map,if_pos ((List.getElem?_eq_some_iff.1 h).1)];rfl
 ·rfl
theorem cut_nm (p:List UInt8):(cutS (bs p) 47).1=bs (nmL p):=by
 rw[cut_L]
 unfold nmL
 cases cutL p with
 | none=>rfl
 | some nr=>rfl
def phA (ph v len:Nat):AV:=match ph with
 | 1=> .sl 100001 v 1 0 len
 | _=> .sl 70 1 1 0 len
def phH (ph v:Nat) (J M:List FV):List (Nat × Nat × AObj):=match ph with
 | 0=>[(70,1,.cells (M.map .f))]
 | 1=>[(100001,v,.cells (M.map .f))]
 | _=>[(70,1,.cells (M.map .f)),(100001,v,.cells (J.map .f))]
section
variable {P:Program}{R:Env→Heap→Prop}{Λ : Lams}{k:List It}{los:List LO}
theorem ax_phase {env:Env}{H:Heap}{X Y Z:FV}{len ph v:Nat}{J M:List FV}(he:env=mkE 90 [(4,.f X),(5,phA ph v len),(6,.f Y),(0,.f Z)]) (hh:H=mkH (phH ph v J M)) (hx:∀ v,Ax P R Λ (.ops los::k) (mkE 90 [(4,.f X),(5,.sl 100001 v 1 0 len),(6,.f Y),(0,.f Z)]) (mkH [(100001,v,.cells (M.map .f))])) :
  Ax P R Λ (.ops los::k) env H:=by
 subst he hh
 match ph with
 | 1=>exact hx v
 | 0=>
  refine ax_mv [(70,100001,1)] (nw:=[]) (n:=90) (el:=[(4,.f X),(5,.sl 100001 1 1 0 len),(6,.f Y),(0,.f Z)]) (hl:=[(100001,1,.cells (M.map .f))]) ⟨by decide,by decide,fun e he=>by
   simp only[List.mem_cons,List.not_mem_nil,or_false]at he
   subst he
   exact⟨by decide,Nat.zero_lt_one⟩⟩ ?_ (hx 1)
  refine wk_i (h2:=ZQ (QG rfl) rfl) ?_ ?_
  ·refine⟨by decide,Ya (.f X) rfl,by decide,?_,by decide,Ya (.f Y) rfl,by decide,Ya (.f Z) rfl,trivial⟩
   show SlotOk _ _ [] (.sl 100001 1 1 0 len) _
   rw[so_ss];exact⟨rfl,rfl,rfl,rfl,rfl,rfl,by simp,rfl,rfl⟩
  ·refine hl_c (cs0:=M.map .f) ?_ Vs trivial
   show some (AObj.cells (AV.turnL _ (M.map .f)))=_
   rw[tl_fs]
 | ph+2=>
  refine ax_mv [(70,100001,v+1)] (nw:=[]) (n:=90) (el:=[(4,.f X),(5,.sl 100001 (v+1) 1 0 len),(6,.f Y),(0,.f Z)]) (hl:=[(100001,v+1,.cells (M.map .f))]) ⟨by simp,by simp,fun e he=>by
   simp only[List.mem_cons,List.not_mem_nil,or_false]at he
   subst he
   exact⟨Nat.le_add_right 100000 1,Nat.lt_succ_self v⟩⟩ ?_ (hx (v+1))
  refine wk_i (h2:=ZQ (QG rfl) rfl) ?_ ?_
  ·refine⟨by decide,Ya (.f X) rfl,by decide,?_,by decide,Ya (.f Y) rfl,by decide,Ya (.f Z) rfl,trivial⟩
   show SlotOk _ _ [] (.sl 100001 (v+1) 1 0 len) _
   rw[so_ss];exact⟨rfl,rfl,rfl,rfl,rfl,rfl,by simp,rfl,rfl⟩
  ·refine hl_c (cs0:=M.map .f) ?_ Vs trivial
   show some (AObj.cells (AV.turnL _ (M.map .f)))=_
   rw[tl_fs]
end
theorem ret_vo {sz n id ver:Nat}{cs:List FV}{H:Heap}{x y:FV}(hx:y=x) (h:cellsOf ver (H id)=some (cs.map .f)) (hl:n*sz≤cs.length):Rets [.c (.v x),.c (.own sz n cs)] (.tup [.f y,.sl id ver sz 0 n]) H:=by subst hx;exact⟨[_,_],rfl,⟨rfl,.inr ⟨_,_,rfl,h,hl⟩,rfl⟩,by simp [idsS]⟩
set_option maxHeartbeats 4000000 in
theorem names_f (l:List FT) (hz:Sz l):FRet Tryz.prog 43 [.f (QY l)] [.c (.v (.fr 1 ((Vd l).map fNm))),.c (.own 1 (Vd l).length (rowF fCt (Vd l)))]:=by
 have hZ:=hide hz
 have hll:=hz.len
 clear hz
 refine FCall.of_ax MM ?_
 dsimp only[jm,ji,jf,jl,jL,jn,je,jx,jT,jC,jB,jq,jt,ju,jA,km,kf,kl,kn,kx,KK,QY]
 refine zrs ?_
 repeat'(first|(simp -implicitDefEqProofs only[*,zr,seval,reduceIte,reduceCtorEq])|(apply zk<;>intro hc)|(refine zp ?_)|(refine zd ?_)|fail)
 refine QK (S:=Nat × Nat × Nat × List FV) 90 [0] [] (fun s=>[(4,.f (.fr 1 ((Vd (l.take s.1)).map fNm))),(5,phA s.2.1 s.2.2.1 (Vd (l.take s.1)).length),(6,.f (.int .i64 s.1))]) (fun s=>phH s.2.1 s.2.2.1 s.2.2.2 (rowF fCt (Vd (l.take s.1)))) (fun s=>s.1≤l.length) (fun s=>l.length - s.1) ((0,0,0,[])) [70] ?_ ?_ fun s hs=> ?_
 ·exact Nat.zero_le _
 ·dsimp only[phA,phH]
  rw[show(Vd (l.take 0)) = []from by rw[List.take_zero];rfl]
  refine wk_i ?_ ?_<;>simp only[zw,seval,reduceIte,reduceCtorEq]
  all_goals first|rfl|exact⟨_,rfl⟩
 obtain⟨s,ph,v,J⟩:=s
 dsimp only at hs ⊢
 refine ax_seq (ax_seq (ax_reg (ax_phase (X:= .fr 1 ((Vd (l.take s)).map fNm)) (Y:= .int .i64 s) (Z:= .fr 3 (l.map fFt)) (ph:=ph) (v:=v) (J:=J) rfl (by rw[List.map_nil,List.append_nil]) fun v=> ?_)))
 clear J ph
 rename_i v'
 clear v'
 rcases Nat.lt_or_ge s l.length with hlt|hge
 ·obtain⟨x,hx⟩:=QH hlt
  have h4:=XU hlt (by omega)
  have h2:=lt_t hlt
  have hsn:Vd (l.take (s+1))=insC (nmL x.1) (Vd (l.take s)):=by rw[List.take_add_one,hx];exact UU
  have hcl:=Jl l s
  have hcc:=hide (Wl l s)
  have hxb:=hZ.out.pt x (List.mem_of_getElem? hx)
  generalize hout:Vd (l.take s)=out at*
  replace hout:=hide hout
  obtain⟨xp,xr,xb⟩:=x
  have kC:=cut_f1 (bs xp) 47 (by show((xp.toArray.size:Nat):Int)≤_;rw[List.size_toArray];dsimp only at hxb;omega)
  rw[cut_nm]at kC
  clear hxb
  dsimp only at hsn
  generalize nmL xp=nm at*
  refine zrs ?_
  repeat'(first|(simp -implicitDefEqProofs only[*,List.getElem?_map,Option.map_some,fFt,zr,seval,reduceIte,reduceCtorEq])|(apply zk<;>intro hc)|(refine zp ?_)|(refine zd ?_)|(refine cP (kC) ?_)|(refine cD (kC) ?_)|(refine cF (kC) ?_)|(refine cO (kC) ?_)|fail)
  obtain⟨i,hi⟩:∃ i,i=s:=⟨s,rfl⟩
  subst hi
  have hkk:∀ (m:Nat) (y:List UInt8 × Nat),out[m]? = some y→strLt (bs y.1) (bs nm)=Op.bytesLess y.1 nm:=fun m y _=>by rw[Vj]
  replace hkk:=hide hkk
  replace hsn:=hide hsn
  clear h4 h2 kC hx
  refine QK (S:=Nat) 90 [0,4,5,6,7] [100001] (fun s=>[(10,.f (.int .i64 s))]) (fun s=>[]) (fun s=>s≤out.length∧(∀ (m:Nat) y,m<s→out[m]? = some y→Op.bytesLess y.1 nm=true)) (fun s=>out.length - s) (0) [] ?_ ?_ fun s hs=> ?_
  ·exact⟨Nat.zero_le _,fun i y h=>absurd h (Nat.not_lt_zero _)⟩
  ·refine wk_i ?_ ?_<;>simp only[zw,seval,reduceIte,reduceCtorEq]
  obtain⟨hs1,hs2⟩:=hs
  have h4:=XU hlt (by omega)
  have kN:s=out.length∨(∃ y,out[s]? = some y∧Op.bytesLess y.1 nm=false)→s=Xi nm out:=fun h=>kName_eq hs1 hs2 fun y hy=>by
   rcases h with h|⟨z,hz,hb⟩
   ·rw[h]at hy;exact absurd (List.getElem?_eq_some_iff.1 hy).1 (by omega)
   ·rw[hz]at hy;obtain rfl:=Option.some.inj hy;exact hb
  have hcut:out[s]? = none∨(∃ y,out[s]? = some y∧y.1≠nm)→s=Xi nm out→Vd (l.take (i+1))=out.take s++(nm,1)::out.drop s:=fun h e=>by
   rw[hsn.out]
   unfold insC
   rw[← e]
   rcases h with h|⟨y,h,hy⟩
   ·rw[h]
   ·rw[h];obtain⟨m,c⟩:=y;exact if_neg hy
  have hll2:out.length≤1000:=by omega
  have hle:((s:Int)≤(out.length:Int))=True:=by rw[eq_iff_iff,iff_true];omega
  have hle2:(s≤out.length)=True:=by rw[eq_iff_iff,iff_true];omega
  rcases Nat.lt_or_ge s out.length with hlo|hgo
  ·obtain⟨y,hy⟩:=QH hlo
   have h6:=XU hlo (by omega)
   have h7:=lt_t hlo
   have hky:=hkk.out s y hy
   have hyc:=hcc.out y (List.mem_of_getElem? hy)
   obtain⟨ym,yc⟩:=y
   dsimp only at hky hyc
   cases hb:Op.bytesLess ym nm with
   | true=>
    rw[hb]at hky
    have hs3:∀ (m:Nat) z,m<s+1→out[m]? = some z→Op.bytesLess z.1 nm=true:=fun m z hm hz=>by
     rcases Nat.lt_or_ge m s with h|h
     ·exact hs2 m z h hz
     ·obtain rfl:m=s:=by omega
      rw[hy]at hz;obtain rfl:=Option.some.inj hz;exact hb
    replace hs3:=hide hs3
    clear hs2 kN hcut hb
    refine zrs ?_
    repeat'(first|(simp -implicitDefEqProofs only[*,List.getElem?_map,Option.map_some,fNm,zr,seval,reduceIte,reduceCtorEq])|(apply zk<;>intro hc)|(refine zp ?_)|(refine zd ?_)|fail)
    refine⟨s+1,⟨hlo,hs3.out⟩,by omega,?_⟩
    refine wk_i ?_ ?_<;>simp only[zw,seval,reduceIte,reduceCtorEq]
   | false=>
    rw[hb]at hky
    have hK:=kN (.inr ⟨_,hy,hb⟩)
    by_cases he:ym=nm
    ·subst he
     have d1:decide (bs ym=bs ym)=true:=decide_eq_true rfl
     have hup:Vd (l.take (i+1))=out.set s (ym,yc+1):=by
      rw[hsn.out]
      unfold insC
      rw[← hK,hy];exact if_pos rfl
     have w1:IntKind.i64.wrap ((yc:Int)+1)=((yc+1:Nat):Int):=by rw[QR]<;>omega
     have cl:((rowF fCt out).map AV.f).length=out.length:=by rw[List.length_map,QD (sz:=1) (fun _=>rfl)];omega
     have ca:((rowF fCt out).map AV.f)[s]? = some (.f (.int .i64 (yc:Int))):=by
      rw[Zl,List.getElem?_map,List.getElem?_map,hy];rfl
     have q5:=eq_true (show s+1≤out.length from hlo)
     replace hK:=hide hK
     replace hup:=hide hup
     clear hs2 kN hcut
     generalize hC:(rowF fCt out).map AV.f=C at*
     replace hC:=hide hC
     refine zrs ?_
     repeat'(first|(simp -implicitDefEqProofs only[*,List.getElem?_map,Option.map_some,fNm,zr,seval,reduceIte,reduceCtorEq])|(apply zk<;>intro hc)|(refine zp ?_)|(refine zd ?_)|fail)
     refine⟨(i+1,1,v,[]),hlt,by omega,?_⟩
     dsimp only[phA,phH]
     rw[hup.out,List.length_set]
     refine wk_i ?_ ?_<;>simp only[zw,seval,reduceIte,reduceCtorEq]
     ·rw[QDb hy]
     ·refine SlotsOk.of_eq ?_
      rw[Zl,List.map_set,List.map_set,← Zl,hC.out]
    ·have d1:decide (bs ym=bs nm)=false:=dcF fun e=>he (KR e)
     have hins:=hcut (.inr ⟨_,hy,he⟩) hK
     replace hK:=hide hK
     replace hins:=hide hins
     clear hs2 kN hcut
     obtain⟨T1,hT1⟩:∃ T,List.take s (out.map fNm)=T:=⟨_,rfl⟩
     obtain⟨T2,hT2⟩:∃ T,List.drop s (out.map fNm)=T:=⟨_,rfl⟩
     have k1:T1.length=s:=by rw[← hT1,List.length_take,List.length_map];omega
     have k2:T2.length=out.length - s:=by rw[← hT2,List.length_drop,List.length_map]
     have k3:T1.flatten=rowF fNm (out.take s):=by rw[← hT1,← List.map_take];rfl
     have k4:T2.flatten=rowF fNm (out.drop s):=by rw[← hT2,← List.map_drop];rfl
     have k5:T1.flatten.length=s:=by rw[k3,QD (sz:=1) (fun _=>rfl),List.length_take];omega
     have kk:s+1+(out.length - s)=out.length+1:=by omega
     have k6:=eq_true (show s*16≤140737488355328 by omega)
     have k7:=eq_true (show(s+1)*16≤140737488355328 by omega)
     have k8:=eq_true (show(out.length+1)*16≤140737488355328 by omega)
     have j6:=eq_true (show s*8≤140737488355328 by omega)
     have j7:=eq_true (show(s+1)*8≤140737488355328 by omega)
     have j8:=eq_true (show(out.length+1)*8≤140737488355328 by omega)
     have k10:((out.length:Int)≤(out.length:Int))=True:=by rw[eq_iff_iff,iff_true];omega
     have cl:(rowF fCt out).length=out.length:=by rw[QD (sz:=1) (fun _=>rfl)];omega
     have z0:s - 0=s:=rfl
     have k12:=eq_true (Nat.le_refl out.length)
     have k11:List.take out.length (out.map fNm)=out.map fNm:=List.take_of_length_le (by rw[List.length_map];exact Nat.le_refl _)
     have z1:s+(out.length - s)=out.length:=by omega
     obtain⟨C1,hC1⟩:∃ T,List.take s ((rowF fCt out).map AV.f)=T:=⟨_,rfl⟩
     obtain⟨C2,hC2⟩:∃ T,List.take (out.length - s) (List.drop s ((rowF fCt out).map AV.f))=T:=⟨_,rfl⟩
     have c1:C1.length=s:=by rw[← hC1,List.length_take,List.length_map,cl];omega
     have c2:C2.length=out.length - s:=by rw[← hC2,List.length_take,List.length_drop,List.length_map,cl];omega
     have c3:C1=(rowF fCt (out.take s)).map .f:=by
      rw[← hC1,Zl,Zl,List.map_take,List.map_take]
     have c4:C2=(rowF fCt (out.drop s)).map .f:=by
      rw[← hC2,Zl,Zl,List.map_drop,List.map_drop,List.take_of_length_le (by rw[List.length_drop,List.length_map,List.length_map];exact Nat.le_refl _)]
     replace c3:=hide c3
     replace c4:=hide c4
     replace k3:=hide k3
     replace k4:=hide k4
     refine zrs ?_
     repeat'(first|(simp -implicitDefEqProofs only[*,List.getElem?_map,Option.map_some,fNm,QE,List.length_append,List.length_map,List.take_zero,List.drop_zero,Nat.mul_one,zr,seval,reduceIte,reduceCtorEq])|(apply zk<;>intro hc)|(refine zp ?_)|(refine zd ?_)|fail)
     refine⟨(i+1,2,v,rowF fCt out),hlt,by omega,?_⟩
     dsimp only[phA,phH]
     rw[hins.out]
     refine wk_i ?_ ?_<;>simp only[zw,seval,reduceIte,reduceCtorEq]
     ·refine⟨Zx (enc:=fNm) (fun _=>rfl) rfl ?_ (by simp;omega),by simp;omega⟩
      show some _=some _
      rw[k3.out,k4.out,Yb,Qr]
      simp [List.map_append,fNm]
     ·refine SlotsOk.of_eq ?_
      rw[c3.out,c4.out,Yb,Qr]
      simp [List.map_append,fCt]
  ·have hse:s=out.length:=by omega
   have hK:=kN (.inl hse)
   have hins:=hcut (.inl (List.getElem?_eq_none hgo)) hK
   have h7:=lt_f hgo
   replace hK:=hide hK
   replace hins:=hide hins
   clear hs2 kN hcut
   replace hse:=hide hse
   obtain⟨T1,hT1⟩:∃ T,List.take s (out.map fNm)=T:=⟨_,rfl⟩
   obtain⟨T2,hT2⟩:∃ T,List.drop s (out.map fNm)=T:=⟨_,rfl⟩
   have k1:T1.length=s:=by rw[← hT1,List.length_take,List.length_map];omega
   have k2:T2.length=out.length - s:=by rw[← hT2,List.length_drop,List.length_map]
   have k3:T1.flatten=rowF fNm (out.take s):=by rw[← hT1,← List.map_take];rfl
   have k4:T2.flatten=rowF fNm (out.drop s):=by rw[← hT2,← List.map_drop];rfl
   have k5:T1.flatten.length=s:=by rw[k3,QD (sz:=1) (fun _=>rfl),List.length_take];omega
   have kk:s+1+(out.length - s)=out.length+1:=by omega
   have k6:=eq_true (show s*16≤140737488355328 by omega)
   have k7:=eq_true (show(s+1)*16≤140737488355328 by omega)
   have k8:=eq_true (show(out.length+1)*16≤140737488355328 by omega)
   have j6:=eq_true (show s*8≤140737488355328 by omega)
   have j7:=eq_true (show(s+1)*8≤140737488355328 by omega)
   have j8:=eq_true (show(out.length+1)*8≤140737488355328 by omega)
   have k10:((out.length:Int)≤(out.length:Int))=True:=by rw[eq_iff_iff,iff_true];omega
   have cl:(rowF fCt out).length=out.length:=by rw[QD (sz:=1) (fun _=>rfl)];omega
   have z0:s - 0=s:=rfl
   have k12:=eq_true (Nat.le_refl out.length)
   have k11:List.take out.length (out.map fNm)=out.map fNm:=List.take_of_length_le (by rw[List.length_map];exact Nat.le_refl _)
   have z1:s+(out.length - s)=out.length:=by omega
   obtain⟨C1,hC1⟩:∃ T,List.take s ((rowF fCt out).map AV.f)=T:=⟨_,rfl⟩
   obtain⟨C2,hC2⟩:∃ T,List.take (out.length - s) (List.drop s ((rowF fCt out).map AV.f))=T:=⟨_,rfl⟩
   have c1:C1.length=s:=by rw[← hC1,List.length_take,List.length_map,cl];omega
   have c2:C2.length=out.length - s:=by rw[← hC2,List.length_take,List.length_drop,List.length_map,cl];omega
   have c3:C1=(rowF fCt (out.take s)).map .f:=by
    rw[← hC1,Zl,Zl,List.map_take,List.map_take]
   have c4:C2=(rowF fCt (out.drop s)).map .f:=by
    rw[← hC2,Zl,Zl,List.map_drop,List.map_drop,List.take_of_length_le (by rw[List.length_drop,List.length_map,List.length_map];exact Nat.le_refl _)]
   replace c3:=hide c3
   replace c4:=hide c4
   replace k3:=hide k3
   replace k4:=hide k4
   refine zrs ?_
   repeat'(first|(simp -implicitDefEqProofs only[*,List.getElem?_map,Option.map_some,fNm,QE,List.length_append,List.length_map,List.take_zero,List.drop_zero,Nat.mul_one,zr,seval,reduceIte,reduceCtorEq])|(apply zk<;>intro hc)|(refine zp ?_)|(refine zd ?_)|fail)
   refine⟨(i+1,2,v,rowF fCt out),hlt,by omega,?_⟩
   dsimp only[phA,phH]
   rw[hins.out]
   refine wk_i ?_ ?_<;>simp only[zw,seval,reduceIte,reduceCtorEq]
   ·refine⟨Zx (enc:=fNm) (fun _=>rfl) rfl ?_ (by simp;omega),by simp;omega⟩
    show some _=some _
    rw[k3.out,k4.out,Yb,Qr]
    simp [List.map_append,fNm]
   ·refine SlotsOk.of_eq ?_
    rw[c3.out,c4.out,Yb,Qr]
    simp [List.map_append,fCt]
 ·obtain rfl:s=l.length:=by omega
  have h2:=lt_f hge
  have h3:=List.take_length (l:=l)
  have hcl:(Vd l).length≤1000:=by have:=Jl l l.length;rw[h3]at this;omega
  clear hZ
  refine zrs ?_
  repeat'(first|(simp -implicitDefEqProofs only[*,zr,seval,reduceIte,reduceCtorEq])|(apply zk<;>intro hc)|(refine zp ?_)|(refine zd ?_)|fail)
  exact ret_vo rfl (by simp [cellsOf,mkH,VP]) (by rw[QD (sz:=1) (fun _=>rfl)];exact Nat.le_refl _)
def fNd1 (d:Nd):List FV:=[.str (bs d.1)]
theorem names_n {l:List FT}(hG:Gd PO l) (hz:Sz l):∃ n cs,FRet Tryz.prog 43 [.f (QY l)] [.c (.v (.fr 1 ((nds l).map fNd1))),.c (.own 1 n cs)]:=by
 have h:=names_f l hz
 rw[show(Vd l).map fNm=(nds l).map fNd1 from by
  have e:=names_nds hG
  have e1:(Vd l).map fNm=((Vd l).map (·.1)).map fun n=>[FV.str (bs n)]:=by rw[List.map_map];rfl
  have e2:(nds l).map fNd1=((nds l).map (·.1)).map fun n=>[FV.str (bs n)]:=by rw[List.map_map];rfl
  rw[e1,e2,e]]at h
 exact⟨_,_,h⟩
end Go.Proofs.YtjfchihkhpinmaaGreatDoor
