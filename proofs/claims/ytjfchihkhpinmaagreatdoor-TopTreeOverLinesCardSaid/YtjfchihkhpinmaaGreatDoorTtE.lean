/-
  What stands in a directory, walked. No statement of the seat is proved here; no conditions.
-/
import Derived.Test.YtjfchihkhpinmaaGreatDoorTtF
namespace Go.Proofs.YtjfchihkhpinmaaGreatDoor
open Go.RowKit Go.Shelf
set_option linter.unusedVariables false
set_option linter.unusedSimpArgs false
set_option maxRecDepth 100000

theorem Yr:∀ d:Nd,(fNd d).length=3
 | (_,.inl _)=>rfl
 | (_,.inr _)=>rfl
theorem Vc:∀ x:FT,(fFt x).length=3:=fun _=>rfl
section
variable {C:List AV}{a b c v:AV}{k:Nat}
theorem OM (h:C.length=k*3):(C++ [a,b,c])[k*3+2]? = some c:=by rw[List.getElem?_append_right (by omega),h,Nat.add_sub_cancel_left];rfl
theorem row3_at1 (h:C.length=k*3):(C++ [a,b,c])[k*3+1]? = some b:=by rw[List.getElem?_append_right (by omega),h,Nat.add_sub_cancel_left];rfl
theorem row3_at0 (h:C.length=k*3):(C++ [a,b,c])[k*3]? = some a:=by rw[List.getElem?_append_right (by omega),h,Nat.sub_self];rfl
theorem OL (h:C.length=k*3):(k*3+2+1≤(C++ [a,b,c]).length)=True:=by rw[eq_iff_iff,iff_true,List.length_append,h];simp
theorem Kk (h:C.length=k*3):(C++ [a,b,c]).set (k*3+2) v=C++ [a,b,v]:=by rw[List.set_append_right _ _ (by omega),h,Nat.add_sub_cancel_left];rfl
end
theorem slot3 {H H':Heap}{nw:List Nat}{a b:FV}{id ver n id' ver' n':Nat}(h:id'=id∧3=3∧0=0∧n'=n∧ver=(H id).1∧ver'=(H' id).1∧id∉nw∧(H id).2.isSome=true∧(H' id).2.isSome=true):SlotsOk H H' nw [.f a,.f b,.sl id ver 3 0 n] [.f a,.f b,.sl id' ver' 3 0 n']:=by
 rw[so_cons,so_cons,so_cons,so_nil,so_ff,so_ff,so_ss]
 exact⟨.inl rfl,.inl rfl,h,trivial⟩
theorem slot3z {H H':Heap}{nw:List Nat}{a b:FV}{id ver n:Nat}{fs:List FT}(hd:(H' id).2=none) (hc:cellsOf ver (H id)=some ((rowF fFt fs).map .f)) (hn:n=fs.length):SlotsOk H H' nw [.f a,.f b,.sl id ver 3 0 n] [.f a,.f b,.f (QY fs)]:=by
 rw[so_cons,so_cons,so_cons,so_nil,so_ff,so_ff]
 exact⟨.inl rfl,.inl rfl,Zx (enc:=fFt) (sz:=3) Vc hd hc hn,trivial⟩
def Ke (acc:List Nd):Option (List Nd × List UInt8 × List FT):=match acc.getLast? with
 | some (n,.inr fs)=>some (acc.dropLast,n,fs)
 | _=>none
theorem Md {acc init:List Nd}{n:List UInt8}{fs:List FT}(h:Ke acc=some (init,n,fs)):acc=init++ [(n,.inr fs)]:=by
 unfold Ke at h
 split at h
 ·rename_i m gs hl
  obtain⟨rfl,h2⟩:=Prod.mk.inj (Option.some.inj h)
  obtain⟨rfl,rfl⟩:=Prod.mk.inj h2
  have hne:acc≠[]:=fun e=>by rw[e]at hl;cases hl
  rw[List.getLast?_eq_some_getLast hne]at hl
  rw[← Option.some.inj hl,List.dropLast_concat_getLast]
 ·cases h
theorem Jn (init:List Nd) (n:List UInt8) (fs:List FT):Ke (init++ [(n,.inr fs)])=some (init,n,fs):=by
 unfold Ke
 rw[List.getLast?_concat,List.dropLast_concat]
theorem Me (init:List Nd) (n:List UInt8) (f:FT):Ke (init++ [(n,.inl f)])=none:=by
 unfold Ke
 rw[List.getLast?_concat]
def Oc (acc:List Nd):List AV:=match Ke acc with
 | some (init,n,fs)=>(rowF fNd init).map .f++ [.f (.str (bs n)),.f (.lit (.pointer none)),.sl 83 1 3 0 fs.length]
 | none=>(rowF fNd acc).map .f
def Mb (acc:List Nd):List (Nat × Nat × AObj):=match Ke acc with
 | some (_,_,fs)=>[(60900,1,.cells (Oc acc)),(83,1,.cells ((rowF fFt fs).map .f))]
 | none=>[(60900,1,.cells (Oc acc))]
theorem Uq {acc:List Nd}(h:Ke acc=none):Mb acc = [(60900,1,.cells ((rowF fNd acc).map .f))]:=by simp [Mb,Oc,h]
theorem Xw {acc init:List Nd}{n:List UInt8}{fs:List FT}(h:Ke acc=some (init,n,fs)):Mb acc = [(60900,1,.cells ((rowF fNd init).map .f++ [.f (.str (bs n)),.f (.lit (.pointer none)),.sl 83 1 3 0 fs.length])),(83,1,.cells ((rowF fFt fs).map .f))]:=by simp [Mb,Oc,h]
theorem addD_len {n:List UInt8}{y:FT} : ∀ {t:List Nd},(addD n y t).length≤t.length+1
 | []=>Nat.le_refl _
 | (_,.inl _)::_=>Nat.le_refl _
 | (m,.inr fs)::t=>by
  rw[Vh]
  by_cases e:m=n
  ·rw[if_pos e];simp
  ·rw[if_neg e];simp
theorem Ow:∀ l:List FT,(grp l).length≤l.length
 | []=>Nat.le_refl _
 | x::l=>by
  unfold grp
  have ih:=Ow l
  cases cutL x.1 with
  | none=>simp only[List.length_cons];omega
  | some nr=>
   have:=addD_len (n:=nr.1) (y:=(nr.2,x.2)) (t:=grp l)
   show(addD nr.1 (nr.2,x.2) (grp l)).length≤_
   simp only[List.length_cons];omega
set_option maxHeartbeats 4000000 in
theorem nodes_o (l:List FT) (hG:Gd PO l) (hne:l≠[]) (hl:l.length≤1000) (hb:∀ x∈l,x.1.length≤200) :
  FRet Tryz.prog 34 [.f (QY l)] [.c (.own 3 (nds l).length (rowF fNd (nds l)))]:=by
 have hn0:0<(grp l).length:=List.length_pos_iff.2 fun e=>hne (grp_nil e)
 have hgl:=Ow l
 have hS:=hide (QDZ hG hn0 (by omega))
 have hnl:(nds l).length=(grp l).length:=(Ma hG).len
 have hB:=hide hb
 clear hb
 refine FCall.of_ax UD ?_
 dsimp only[jm,ji,jf,jl,jL,jn,je,jx,jT,jC,jB,jq,jt,ju,jA,km,kf,kl,kn,kx,JT,QY]
 refine zrs ?_
 repeat'(first|(simp -implicitDefEqProofs only[*,List.length_map,zr,Nat.reduceAdd,Nat.reduceSub,Nat.reduceMul,Nat.reduceLT,Nat.reduceLeDiff,Nat.reduceEqDiff,Nat.reduceBEq,reduceIte,reduceCtorEq,Int.reduceLE,Int.reduceLT,Int.reduceToNat,Int.reduceEq,Int.reduceNe])|(apply zk<;>intro hc)|(refine zp ?_)|(refine zd ?_)|fail)
 refine QK (S:=Nat) 90 [0,10] [] (fun s=>[(11,.f (.int .i64 s)),(3,.sl 60900 1 3 0 (grp (l.take s)).length)]) (fun s=>Mb (grp (l.take s))) (fun s=>s≤l.length) (fun s=>l.length - s) (0) [60900] ?_ ?_ fun s hs=> ?_
 ·exact Nat.zero_le _
 ·rw[List.take_zero,show Mb (grp []) = [(60900,1,.cells [])]from rfl,show(grp []).length=0 from rfl]
  refine wk_i ?_ ?_<;>simp only[zw,Nat.reduceEqDiff,Nat.reduceBEq,Nat.reduceLT,Nat.reduceLeDiff,reduceIte,reduceCtorEq]
 rcases Nat.lt_or_ge s l.length with hlt|hge
 ·obtain⟨x,hx⟩:=QH hlt
  have h4:=XU hlt (by omega)
  have h2:=lt_t hlt
  have hsn:grp (l.take (s+1))=snN (grp (l.take s)) x:=by rw[List.take_add_one,hx];exact QCw
  have hxb:x.1.length≤200:=hB.out x (List.mem_of_getElem? hx)
  have hal:=Ow (l.take s)
  rw[List.length_take,Nat.min_eq_left (by omega)]at hal
  generalize hacc:grp (l.take s)=acc at*
  replace hacc:=hide hacc
  obtain⟨xp,xr,xb⟩:=x
  have kC:=cut_f1 (bs xp) 47 (by show((xp.toArray.size:Nat):Int)≤_;rw[List.size_toArray];dsimp only at hxb;omega)
  rw[cut_L]at kC
  clear hxb
  have hone:(frB xb).isOne=true:=rfl
  have hRL:(rowF fNd acc).length=acc.length*3:=QD Yr
  have b1:=eq_true (show(acc.length+1)*48≤140737488355328 by omega)
  replace hal:=hide hal
  cases hL:Ke acc with
  | none=>
   rw[Uq hL]
   cases hc:cutL xp with
   | none=>
    rw[hc]at kC
    dsimp only at kC
    have hacc2:snN acc (xp,xr,xb)=acc++ [(xp,.inl (xp,xr,xb))]:=by unfold snN;rw[hc]
    refine zrs ?_
    repeat'(first|(simp -implicitDefEqProofs only[*,List.getElem?_map,Option.map_some,fFt,zr,Nat.reduceAdd,Nat.reduceSub,Nat.reduceMul,Nat.reduceLT,Nat.reduceLeDiff,Nat.reduceEqDiff,Nat.reduceBEq,reduceIte,reduceCtorEq,Int.reduceLE,Int.reduceLT,Int.reduceToNat,Int.reduceEq,Int.reduceNe])|(apply zk<;>intro hc)|(refine zp ?_)|(refine zd ?_)|(refine cP (kC) ?_)|(refine cD (kC) ?_)|(refine cF (kC) ?_)|(refine cO (kC) ?_)|fail)
    refine⟨s+1,hlt,by omega,?_⟩
    rw[hsn,hacc2,Uq (Me _ _ _),List.length_append,Vy,List.map_append]
    refine wk_i ?_ ?_<;>simp only[zw,Nat.reduceEqDiff,Nat.reduceBEq,Nat.reduceLT,Nat.reduceLeDiff,reduceIte,reduceCtorEq]
    exact SlotsOk.app (SlotsOk.fs rfl) (SlotsOk.of_eq rfl)
   | some nr=>
    obtain⟨n,r⟩:=nr
    rw[hc]at kC
    dsimp only at kC
    rcases List.eq_nil_or_concat acc with rfl|⟨init,d,rfl⟩
    ·have hacc2:snN [] (xp,xr,xb) = []++ [(n,.inr [(r,xr,xb)])]:=by unfold snN;rw[hc];rfl
     have w1:IntKind.i64.wrap (((0:Nat):Int) - 1) = -1:=by decide
     have w2:decide ((-1:Int)<0)=true:=by decide
     have w3:IntKind.i64.wrap ((-1:Int)+1)=((0:Nat):Int):=by decide
     have hCl:((rowF fNd []).map AV.f).length=0*3:=rfl
     have p1:=eq_true (show 0<0+1 by omega)
     have hN:([]:List Nd).length=0:=rfl
     generalize hC:(rowF fNd []).map AV.f=C at*
     have q2:=fun a b c=>OM (C:=C) (a:=a) (b:=b) (c:=c) hCl
     have q3:=fun a b c=>OL (C:=C) (a:=a) (b:=b) (c:=c) hCl
     have q4:=fun a b c v=>Kk (C:=C) (a:=a) (b:=b) (c:=c) (v:=v) hCl
     clear hRL
     replace hC:=hide hC
     refine zrs ?_
     repeat'(first|(simp -implicitDefEqProofs only[*,QE,List.getElem?_map,Option.map_some,fFt,zr,Nat.reduceAdd,Nat.reduceSub,Nat.reduceMul,Nat.reduceLT,Nat.reduceLeDiff,Nat.reduceEqDiff,Nat.reduceBEq,reduceIte,reduceCtorEq,Int.reduceLE,Int.reduceLT,Int.reduceToNat,Int.reduceEq,Int.reduceNe])|(apply zk<;>intro hc)|(refine zp ?_)|(refine zd ?_)|(refine cP (kC) ?_)|(refine cD (kC) ?_)|(refine cF (kC) ?_)|(refine cO (kC) ?_)|fail)
     refine⟨s+1,hlt,by omega,?_⟩
     rw[hsn,hacc2,Xw (Jn _ _ _),List.length_append,hC.out]
     refine wk_i ?_ ?_<;>simp only[zw,Nat.reduceEqDiff,Nat.reduceBEq,Nat.reduceLT,Nat.reduceLeDiff,reduceIte,reduceCtorEq]
     all_goals first
      | rfl
      | (rw[← hC.out];exact⟨SlotsOk.app (SlotsOk.fs rfl) (slot3 ⟨rfl,rfl,rfl,rfl,rfl,rfl,by simp,rfl,rfl⟩),SlotsOk.of_eq rfl⟩)
    ·obtain⟨m,f|fs⟩:=d
     case inr=>rw[List.concat_eq_append,Jn]at hL;cases hL
     rw[List.concat_eq_append]at*
     have hacc2:snN (init++ [(m,.inl f)]) (xp,xr,xb)=init++ [(m,.inl f)]++ [(n,.inr [(r,xr,xb)])]:=by unfold snN;rw[hc];simp only[List.getLast?_concat]
     have hN:(init++ [(m,Sum.inl f)]:List Nd).length=init.length+1:=by simp
     have hb:=hal.out
     have hat:(init++ [(m,Sum.inl f)]:List Nd)[init.length]? = some (m,.inl f):=by simp
     have r0:((rowF fNd (init++ [(m,Sum.inl f)])).map AV.f)[init.length*3]? = some (.f (.str (bs m))):=Jh (i:=init.length) (j:=0) Yr hat rfl
     have r1:((rowF fNd (init++ [(m,Sum.inl f)])).map AV.f)[init.length*3+1]? = some (.f (.fp (fFt f))):=Jh (i:=init.length) (j:=1) Yr hat rfl
     rw[hN]at b1 hRL hb
     have w1:IntKind.i64.wrap (((init.length+1:Nat):Int) - 1)=(init.length:Int):=by rw[QR]<;>omega
     have w2:decide ((init.length:Int)<0)=false:=dcF (by omega)
     have w3:IntKind.i64.wrap ((init.length:Int)+1)=((init.length+1:Nat):Int):=by rw[QR]<;>omega
     have p1:=eq_true (show init.length<init.length+1 by omega)
     have p2:=eq_true (show init.length+1<init.length+1+1 by omega)
     have hCl:((rowF fNd (init++ [(m,Sum.inl f)])).map AV.f).length=(init.length+1)*3:=by rw[List.length_map,hRL]
     generalize hC:(rowF fNd (init++ [(m,Sum.inl f)])).map AV.f=C at*
     have q2:=fun a b c=>OM (C:=C) (a:=a) (b:=b) (c:=c) hCl
     have q3:=fun a b c=>OL (C:=C) (a:=a) (b:=b) (c:=c) hCl
     have q4:=fun a b c v=>Kk (C:=C) (a:=a) (b:=b) (c:=c) (v:=v) hCl
     clear hat hRL hb
     replace hC:=hide hC
     by_cases hmn:m=n
     ·subst hmn
      have w4:decide (bs m=bs m)=true:=dcT rfl
      refine zrs ?_
      repeat'(first|(simp -implicitDefEqProofs only[*,QE,List.getElem?_map,Option.map_some,fFt,zr,Nat.reduceAdd,Nat.reduceSub,Nat.reduceMul,Nat.reduceLT,Nat.reduceLeDiff,Nat.reduceEqDiff,Nat.reduceBEq,reduceIte,reduceCtorEq,Int.reduceLE,Int.reduceLT,Int.reduceToNat,Int.reduceEq,Int.reduceNe])|(apply zk<;>intro hc)|(refine zp ?_)|(refine zd ?_)|(refine cP (kC) ?_)|(refine cD (kC) ?_)|(refine cF (kC) ?_)|(refine cO (kC) ?_)|fail)
      refine⟨s+1,hlt,by omega,?_⟩
      rw[hsn,hacc2,Xw (Jn _ _ _),List.length_append,hC.out]
      refine wk_i ?_ ?_<;>simp only[zw,Nat.reduceEqDiff,Nat.reduceBEq,Nat.reduceLT,Nat.reduceLeDiff,reduceIte,reduceCtorEq]
      ·rw[hN]
      ·rw[← hC.out]
       refine⟨SlotsOk.app (SlotsOk.fs rfl) (slot3 ⟨rfl,rfl,rfl,rfl,rfl,rfl,by simp,rfl,rfl⟩),SlotsOk.of_eq rfl⟩
     ·have w4:decide (bs m=bs n)=false:=dcF fun e=>hmn (KR e)
      refine zrs ?_
      repeat'(first|(simp -implicitDefEqProofs only[*,QE,List.getElem?_map,Option.map_some,fFt,zr,Nat.reduceAdd,Nat.reduceSub,Nat.reduceMul,Nat.reduceLT,Nat.reduceLeDiff,Nat.reduceEqDiff,Nat.reduceBEq,reduceIte,reduceCtorEq,Int.reduceLE,Int.reduceLT,Int.reduceToNat,Int.reduceEq,Int.reduceNe])|(apply zk<;>intro hc)|(refine zp ?_)|(refine zd ?_)|(refine cP (kC) ?_)|(refine cD (kC) ?_)|(refine cF (kC) ?_)|(refine cO (kC) ?_)|fail)
      refine⟨s+1,hlt,by omega,?_⟩
      rw[hsn,hacc2,Xw (Jn _ _ _),List.length_append,hC.out]
      refine wk_i ?_ ?_<;>simp only[zw,Nat.reduceEqDiff,Nat.reduceBEq,Nat.reduceLT,Nat.reduceLeDiff,reduceIte,reduceCtorEq]
      ·rw[hN]
      ·rw[← hC.out]
       refine⟨SlotsOk.app (SlotsOk.fs rfl) (slot3 ⟨rfl,rfl,rfl,rfl,rfl,rfl,by simp,rfl,rfl⟩),SlotsOk.of_eq rfl⟩
  | some t=>
   obtain⟨init,m,fs⟩:=t
   have haE:=Md hL
   subst haE
   rw[Xw hL]
   have hN:(init++ [(m,Sum.inr fs)]:List Nd).length=init.length+1:=by simp
   have hb:=hal.out
   rw[hN]at b1 hb
   have hfs:fs.length≤s:=by
    have h1:=(ZY (l:=l.take s) (d:=(m,.inr fs)) (by rw[hacc.out];simp)).length_le
    rw[List.length_take]at h1
    have h3:(exN (m,.inr fs)).length=fs.length:=by simp [exN]
    omega
   cases hc:cutL xp with
   | none=>
    rw[hc]at kC
    dsimp only at kC
    have hacc2:snN (init++ [(m,.inr fs)]) (xp,xr,xb)=init++ [(m,.inr fs)]++ [(xp,.inl (xp,xr,xb))]:=by unfold snN;rw[hc]
    refine QP 2 _ _ _ _ ?_
    repeat'(first|(simp -implicitDefEqProofs only[*,zr,Nat.reduceAdd,Nat.reduceSub,Nat.reduceMul,Nat.reduceLT,Nat.reduceLeDiff,Nat.reduceEqDiff,Nat.reduceBEq,reduceIte,reduceCtorEq,Int.reduceLE,Int.reduceLT,Int.reduceToNat,Int.reduceEq,Int.reduceNe])|(apply zk<;>intro hc)|(refine zp ?_)|(refine zd ?_)|fail)
    refine Kx [] (nw:=[]) (n:=90) (el:=[(11,.f (.int .i64 s)),(3,.sl 60900 1 3 0 (init++ [(m,Sum.inr fs)]:List Nd).length),(0,.f (.fr 3 (l.map fFt))),(10,.f (.int .i64 l.length))]) (hl:=[(60900,1,.cells ((rowF fNd init).map .f++ [.f (.str (bs m)),.f (.lit (.pointer none)),.f (QY fs)]))]) rfl ?_ ?_
    ·refine wk_i ?_ ?_<;>simp only[zw,Nat.reduceEqDiff,Nat.reduceBEq,Nat.reduceLT,Nat.reduceLeDiff,reduceIte,reduceCtorEq]
     all_goals first|exact hN |(refine SlotsOk.app (SlotsOk.fs rfl) (slot3z (id:=83) (ver:=1) (fs:=fs) ?_ ?_ rfl)<;>rfl)
    rw[show(rowF fNd init).map AV.f++ [.f (.str (bs m)),.f (.lit (.pointer none)),.f (QY fs)]=(rowF fNd (init++ [(m,.inr fs)])).map AV.f by rw[Vy,List.map_append];rfl]
    refine zrs ?_
    repeat'(first|(simp -implicitDefEqProofs only[*,List.getElem?_map,Option.map_some,fFt,zr,Nat.reduceAdd,Nat.reduceSub,Nat.reduceMul,Nat.reduceLT,Nat.reduceLeDiff,Nat.reduceEqDiff,Nat.reduceBEq,reduceIte,reduceCtorEq,Int.reduceLE,Int.reduceLT,Int.reduceToNat,Int.reduceEq,Int.reduceNe])|(apply zk<;>intro hc)|(refine zp ?_)|(refine zd ?_)|(refine cP (kC) ?_)|(refine cD (kC) ?_)|(refine cF (kC) ?_)|(refine cO (kC) ?_)|fail)
    refine⟨s+1,hlt,by omega,?_⟩
    rw[hsn,hacc2,Uq (Me _ _ _),List.length_append]
    simp only[Vy,List.map_append]
    refine wk_i ?_ ?_<;>simp only[zw,Nat.reduceEqDiff,Nat.reduceBEq,Nat.reduceLT,Nat.reduceLeDiff,reduceIte,reduceCtorEq]
    all_goals first
     | (rw[hN];done)
     | exact SlotsOk.app (SlotsOk.fs rfl) (SlotsOk.of_eq rfl)
     | exact SlotsOk.app (SlotsOk.app (SlotsOk.fs rfl) (SlotsOk.fs rfl)) (SlotsOk.of_eq rfl)
   | some nr=>
    obtain⟨n,r⟩:=nr
    rw[hc]at kC
    dsimp only at kC
    by_cases hmn:m=n
    ·subst hmn
     have hacc2:snN (init++ [(m,.inr fs)]) (xp,xr,xb)=init++ [(m,.inr (fs++ [(r,xr,xb)]))]:=by
      unfold snN
      rw[hc]
      simp
     have w4:decide (bs m=bs m)=true:=dcT rfl
     have w1:IntKind.i64.wrap (((init.length+1:Nat):Int) - 1)=(init.length:Int):=by rw[QR]<;>omega
     have w2:decide ((init.length:Int)<0)=false:=dcF (by omega)
     have p1:=eq_true (show init.length<init.length+1 by omega)
     have hCl:((rowF fNd init).map AV.f).length=init.length*3:=by rw[List.length_map,QD Yr]
     generalize hC:(rowF fNd init).map AV.f=C at*
     have q0:=fun a b c=>row3_at0 (C:=C) (a:=a) (b:=b) (c:=c) hCl
     have q1:=fun a b c=>row3_at1 (C:=C) (a:=a) (b:=b) (c:=c) hCl
     have q2:=fun a b c=>OM (C:=C) (a:=a) (b:=b) (c:=c) hCl
     have q3:=fun a b c=>OL (C:=C) (a:=a) (b:=b) (c:=c) hCl
     have q4:=fun a b c v=>Kk (C:=C) (a:=a) (b:=b) (c:=c) (v:=v) hCl
     have b2:=eq_true (show(fs.length+1)*48≤140737488355328 by omega)
     have hFL:(rowF fFt fs).length=fs.length*3:=QD Vc
     clear hRL hb hfs
     replace hC:=hide hC
     refine zrs ?_
     repeat'(first|(simp -implicitDefEqProofs only[*,QE,List.getElem?_map,Option.map_some,fFt,zr,Nat.reduceAdd,Nat.reduceSub,Nat.reduceMul,Nat.reduceLT,Nat.reduceLeDiff,Nat.reduceEqDiff,Nat.reduceBEq,reduceIte,reduceCtorEq,Int.reduceLE,Int.reduceLT,Int.reduceToNat,Int.reduceEq,Int.reduceNe])|(apply zk<;>intro hc)|(refine zp ?_)|(refine zd ?_)|(refine cP (kC) ?_)|(refine cD (kC) ?_)|(refine cF (kC) ?_)|(refine cO (kC) ?_)|fail)
     refine⟨s+1,hlt,by omega,?_⟩
     rw[hsn,hacc2,Xw (Jn _ _ _),List.length_append,List.length_append,hC.out,Vy,List.map_append]
     refine wk_i ?_ ?_<;>simp only[zw,Nat.reduceEqDiff,Nat.reduceBEq,Nat.reduceLT,Nat.reduceLeDiff,reduceIte,reduceCtorEq]
     rw[← hC.out]
     exact⟨SlotsOk.app (SlotsOk.fs rfl) (slot3 ⟨rfl,rfl,rfl,rfl,rfl,rfl,by simp,rfl,rfl⟩),SlotsOk.app (SlotsOk.fs rfl) (SlotsOk.of_eq rfl)⟩
    ·have hacc2:snN (init++ [(m,.inr fs)]) (xp,xr,xb)=init++ [(m,.inr fs)]++ [(n,.inr [(r,xr,xb)])]:=by
      unfold snN
      rw[hc]
      simp only[List.getLast?_concat]
      rw[if_neg hmn]
     refine QP 2 _ _ _ _ ?_
     repeat'(first|(simp -implicitDefEqProofs only[*,zr,Nat.reduceAdd,Nat.reduceSub,Nat.reduceMul,Nat.reduceLT,Nat.reduceLeDiff,Nat.reduceEqDiff,Nat.reduceBEq,reduceIte,reduceCtorEq,Int.reduceLE,Int.reduceLT,Int.reduceToNat,Int.reduceEq,Int.reduceNe])|(apply zk<;>intro hc)|(refine zp ?_)|(refine zd ?_)|fail)
     refine Kx [] (nw:=[]) (n:=90) (el:=[(11,.f (.int .i64 s)),(3,.sl 60900 1 3 0 (init++ [(m,Sum.inr fs)]:List Nd).length),(0,.f (.fr 3 (l.map fFt))),(10,.f (.int .i64 l.length))]) (hl:=[(60900,1,.cells ((rowF fNd init).map .f++ [.f (.str (bs m)),.f (.lit (.pointer none)),.f (QY fs)]))]) rfl ?_ ?_
     ·refine wk_i ?_ ?_<;>simp only[zw,Nat.reduceEqDiff,Nat.reduceBEq,Nat.reduceLT,Nat.reduceLeDiff,reduceIte,reduceCtorEq]
      all_goals first|exact hN |(refine SlotsOk.app (SlotsOk.fs rfl) (slot3z (id:=83) (ver:=1) (fs:=fs) ?_ ?_ rfl)<;>rfl)
     rw[show(rowF fNd init).map AV.f++ [.f (.str (bs m)),.f (.lit (.pointer none)),.f (QY fs)]=(rowF fNd (init++ [(m,.inr fs)])).map AV.f by rw[Vy,List.map_append];rfl]
     have hat:(init++ [(m,Sum.inr fs)]:List Nd)[init.length]? = some (m,.inr fs):=by simp
     have r0:((rowF fNd (init++ [(m,Sum.inr fs)])).map AV.f)[init.length*3]? = some (.f (.str (bs m))):=Jh (i:=init.length) (j:=0) Yr hat rfl
     have r1:((rowF fNd (init++ [(m,Sum.inr fs)])).map AV.f)[init.length*3+1]? = some (.f (.lit (.pointer none))):=Jh (i:=init.length) (j:=1) Yr hat rfl
     rw[hN]at hRL
     have w1:IntKind.i64.wrap (((init.length+1:Nat):Int) - 1)=(init.length:Int):=by rw[QR]<;>omega
     have w2:decide ((init.length:Int)<0)=false:=dcF (by omega)
     have w3:IntKind.i64.wrap ((init.length:Int)+1)=((init.length+1:Nat):Int):=by rw[QR]<;>omega
     have p1:=eq_true (show init.length<init.length+1 by omega)
     have p2:=eq_true (show init.length+1<init.length+1+1 by omega)
     have hCl:((rowF fNd (init++ [(m,Sum.inr fs)])).map AV.f).length=(init.length+1)*3:=by rw[List.length_map,hRL]
     generalize hC:(rowF fNd (init++ [(m,Sum.inr fs)])).map AV.f=C at*
     have q2:=fun a b c=>OM (C:=C) (a:=a) (b:=b) (c:=c) hCl
     have q3:=fun a b c=>OL (C:=C) (a:=a) (b:=b) (c:=c) hCl
     have q4:=fun a b c v=>Kk (C:=C) (a:=a) (b:=b) (c:=c) (v:=v) hCl
     clear hat hRL hb
     replace hC:=hide hC
     have w4:decide (bs m=bs n)=false:=dcF fun e=>hmn (KR e)
     refine zrs ?_
     repeat'(first|(simp -implicitDefEqProofs only[*,QE,List.getElem?_map,Option.map_some,fFt,zr,Nat.reduceAdd,Nat.reduceSub,Nat.reduceMul,Nat.reduceLT,Nat.reduceLeDiff,Nat.reduceEqDiff,Nat.reduceBEq,reduceIte,reduceCtorEq,Int.reduceLE,Int.reduceLT,Int.reduceToNat,Int.reduceEq,Int.reduceNe])|(apply zk<;>intro hc)|(refine zp ?_)|(refine zd ?_)|(refine cP (kC) ?_)|(refine cD (kC) ?_)|(refine cF (kC) ?_)|(refine cO (kC) ?_)|fail)
     refine⟨s+1,hlt,by omega,?_⟩
     rw[hsn,hacc2,Xw (Jn _ _ _),List.length_append,hC.out]
     refine wk_i ?_ ?_<;>simp only[zw,Nat.reduceEqDiff,Nat.reduceBEq,Nat.reduceLT,Nat.reduceLeDiff,reduceIte,reduceCtorEq]
     ·rw[hN]
     ·rw[← hC.out]
      refine⟨SlotsOk.app (SlotsOk.fs rfl) (slot3 ⟨rfl,rfl,rfl,rfl,rfl,rfl,by simp,rfl,rfl⟩),SlotsOk.of_eq rfl⟩
 ·obtain rfl:s=l.length:=by omega
  have h2:=lt_f hge
  rw[List.take_length]
  generalize hacc:grp l=acc at*
  cases hL:Ke acc with
  | none=>
   rw[Uq hL]
   refine zrs ?_
   repeat'(first|(simp -implicitDefEqProofs only[*,zr,Nat.reduceAdd,Nat.reduceSub,Nat.reduceMul,Nat.reduceLT,Nat.reduceLeDiff,Nat.reduceEqDiff,Nat.reduceBEq,reduceIte,reduceCtorEq,Int.reduceLE,Int.reduceLT,Int.reduceToNat,Int.reduceEq,Int.reduceNe])|(apply zk<;>intro hc)|(refine zp ?_)|(refine zd ?_)|fail)
   refine VW (by omega) rfl hS.out rfl 60900 1 ((rowF fNd acc).map .f) [] [_] rfl rfl (QU _) rfl (by rw[QB];exact List.nodup_nil) (by rw[QB];simp [idsS]) (LeL.refl _) rfl (by repeat (first|exact Vx|exact QQ (by simp)|refine Qa rfl ?_)) ?_
   rw[Qe,QX,QB]
   repeat'(first|(simp -implicitDefEqProofs only[*,zr,Nat.reduceAdd,Nat.reduceSub,Nat.reduceMul,Nat.reduceLT,Nat.reduceLeDiff,Nat.reduceEqDiff,Nat.reduceBEq,reduceIte,reduceCtorEq,Int.reduceLE,Int.reduceLT,Int.reduceToNat,Int.reduceEq,Int.reduceNe])|(apply zk<;>intro hc)|(refine zp ?_)|(refine zd ?_)|fail)
   exact KV rfl (by rw[QD Yr,hnl];exact Nat.le_refl _)
  | some t=>
   obtain⟨init,m,fs⟩:=t
   have haE:=Md hL
   subst haE
   rw[Xw hL]
   have hN:(init++ [(m,Sum.inr fs)]:List Nd).length=init.length+1:=by simp
   have hS2:=hS.out
   rw[hN]at hS2 hnl
   replace hS2:=hide hS2
   refine QP 2 _ _ _ _ ?_
   repeat'(first|(simp -implicitDefEqProofs only[*,zr,Nat.reduceAdd,Nat.reduceSub,Nat.reduceMul,Nat.reduceLT,Nat.reduceLeDiff,Nat.reduceEqDiff,Nat.reduceBEq,reduceIte,reduceCtorEq,Int.reduceLE,Int.reduceLT,Int.reduceToNat,Int.reduceEq,Int.reduceNe])|(apply zk<;>intro hc)|(refine zp ?_)|(refine zd ?_)|fail)
   refine Kx [] (nw:=[]) (n:=90) (el:=[(11,.f (.int .i64 l.length)),(3,.sl 60900 1 3 0 (init++ [(m,Sum.inr fs)]:List Nd).length),(0,.f (.fr 3 (l.map fFt))),(10,.f (.int .i64 l.length))]) (hl:=[(60900,1,.cells ((rowF fNd init).map .f++ [.f (.str (bs m)),.f (.lit (.pointer none)),.f (QY fs)]))]) rfl ?_ ?_
   ·refine wk_i ?_ ?_<;>simp only[zw,Nat.reduceEqDiff,Nat.reduceBEq,Nat.reduceLT,Nat.reduceLeDiff,reduceIte,reduceCtorEq]
    all_goals first|exact hN |(refine SlotsOk.app (SlotsOk.fs rfl) (slot3z (id:=83) (ver:=1) (fs:=fs) ?_ ?_ rfl)<;>rfl)
   rw[show(rowF fNd init).map AV.f++ [.f (.str (bs m)),.f (.lit (.pointer none)),.f (QY fs)]=(rowF fNd (init++ [(m,.inr fs)])).map AV.f by rw[Vy,List.map_append];rfl]
   refine zrs ?_
   repeat'(first|(simp -implicitDefEqProofs only[*,zr,Nat.reduceAdd,Nat.reduceSub,Nat.reduceMul,Nat.reduceLT,Nat.reduceLeDiff,Nat.reduceEqDiff,Nat.reduceBEq,reduceIte,reduceCtorEq,Int.reduceLE,Int.reduceLT,Int.reduceToNat,Int.reduceEq,Int.reduceNe])|(apply zk<;>intro hc)|(refine zp ?_)|(refine zd ?_)|fail)
   refine VW (by omega) rfl hS2.out rfl 60900 1 ((rowF fNd (init++ [(m,.inr fs)])).map .f) [] [_] rfl rfl (QU _) rfl (by rw[QB];exact List.nodup_nil) (by rw[QB];simp [idsS]) (LeL.refl _) rfl (by repeat (first|exact Vx|exact QQ (by simp)|refine Qa rfl ?_)) ?_
   rw[Qe,QX,QB]
   repeat'(first|(simp -implicitDefEqProofs only[*,zr,Nat.reduceAdd,Nat.reduceSub,Nat.reduceMul,Nat.reduceLT,Nat.reduceLeDiff,Nat.reduceEqDiff,Nat.reduceBEq,reduceIte,reduceCtorEq,Int.reduceLE,Int.reduceLT,Int.reduceToNat,Int.reduceEq,Int.reduceNe])|(apply zk<;>intro hc)|(refine zp ?_)|(refine zd ?_)|fail)
   exact KV rfl (by rw[QD Yr,hnl];exact Nat.le_refl _)
end Go.Proofs.YtjfchihkhpinmaaGreatDoor
