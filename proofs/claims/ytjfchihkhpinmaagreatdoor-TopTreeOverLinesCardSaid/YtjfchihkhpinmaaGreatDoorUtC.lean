/-
  TreeOf, walked. No statement of the seat is proved here; no conditions.
-/
import Derived.Test.YtjfchihkhpinmaaGreatDoorTtV
namespace Go.Proofs.YtjfchihkhpinmaaGreatDoor
open Go.RowKit Go.Shelf
set_option linter.unusedVariables false
set_option linter.unusedSimpArgs false
set_option maxRecDepth 100000

theorem ret_vovE {sz n id ver:Nat}{cs:List FV}{H:Heap}{x y x' y':FV}(hx:y=x) (h:cellsOf ver (H id)=some (cs.map .f)) (hl:n*sz≤cs.length) (hx':y'=x'):Rets [.c (.v x),.c (.own sz n cs),.c (.v x')] (.tup [.f y,.sl id ver sz 0 n,.f y']) H:=by subst hx hx';exact⟨[_,_,_],rfl,⟨rfl,.inr ⟨_,_,rfl,h,hl⟩,rfl,rfl⟩,by simp [idsS]⟩
theorem so_it {H H':Heap}{nw:List Nat}{m ver N:Nat}{sn:List Nat}(h:SlotOk H H' nw (.map m ver) (.map m ver)):SlotsOk H H' nw (itA m ver N sn) (itA m ver N sn):=by
 unfold itA
 refine⟨h,?_⟩
 have e:(AV.f (.int .i64 N)::sn.map fun (i:Nat)=>AV.f (.int .i64 i))=(FV.int .i64 N::sn.map fun (i:Nat)=>FV.int .i64 i).map .f:=by
  rw[List.map_cons,List.map_map];rfl
 rw[e]
 exact Vs
theorem TreeOf_e (l:List FT) (e:Int) (he:e≠0) (k1:FRet Tryz.prog 10 [.f (QY l)] [.c (.v (.int .i64 e))]):FRet Tryz.prog 4 [.f (QY l)] [.c (.v (.str ⟨#[]⟩)),.c (.v .nil),.c (.v (.int .i64 e))]:=by
 have d0:decide (e=0)=false:=decide_eq_false he
 replace he:=hide he
 generalize QY l=FL at*
 refine FCall.of_ax JJ ?_
 dsimp only[jm,ji,jf,jl,jL,jn,je,jx,jT,jC,jB,jq,jt,ju,jA,km,kf,kl,kn,kx,ZX]
 refine zrs ?_
 repeat'(first|(simp -implicitDefEqProofs only[*,zr,seval,reduceIte,reduceCtorEq])|(refine zp ?_)|(refine zd ?_)|(refine cP (k1) ?_)|(refine cD (k1) ?_)|(refine cF (k1) ?_)|(refine cO (k1) ?_)|fail)
 exact ret_vvv
set_option maxHeartbeats 4000000 in
theorem TreeOf_w (l:List FT) (O:List Ob) (root:ByteArray) (k1:FRet Tryz.prog 10 [.f (QY l)] [.c (.v (.int .i64 0))])
  (k2:FHi Tryz.prog 11 [.ptr 100001 1 0,.f (QY l)] (hlW []) (fun r hl'=>r=.f (.str root)∧hl'=hlW (toM O)))
  (Q:AV→Heap→Prop)
  (hbig:4000<O.length→∀ H,Q (.tup [.f (.str ⟨#[]⟩),.f .nil,.f (.int .i64 2)]) H)
  (hok:O.length≤4000→∀ (A l':List Ob) (v:AV) H,A.Perm O→l'.Perm A→SrtO l'→Rets [.c (.v (.str root)),.c (.own 2 l'.length (rowF fOb l')),.c (.v (.int .i64 0))] v H→Q v H) :
  FCall Tryz.prog 4 [.f (QY l)] H0 Q:=by
 have d0:decide ((0:Int)=0)=true:=rfl
 generalize QY l=FL at*
 refine FCall.of_ax JJ ?_
 dsimp only[jm,ji,jf,jl,jL,jn,je,jx,jT,jC,jB,jq,jt,ju,jA,km,kf,kl,kn,kx,ZX]
 refine zrs ?_
 repeat'(first|(simp -implicitDefEqProofs only[*,zr,seval,reduceIte,reduceCtorEq])|(refine zp ?_)|(refine zd ?_)|(refine cP (k1) ?_)|(refine cD (k1) ?_)|(refine cF (k1) ?_)|(refine cO (k1) ?_)|fail)
 refine ax_tyMap (id:=16) (ver:=1) rfl ?_
 refine ax_mv [(18,100001,1),(16,100002,1)] (nw:=[]) (n:=48) (el:=[(6,.ptr 100001 1 0),(19,.ptr 100001 1 0),(20,.f FL)]) (hl:=hlW [])
  ⟨by decide,by decide,fun e he=>by
   simp only[List.mem_cons,List.not_mem_nil,or_false]at he
   rcases he with rfl|rfl
   ·exact⟨by decide,Nat.zero_lt_one⟩
   ·exact⟨by decide,Nat.zero_lt_one⟩⟩ ?_ ?_
 ·refine wk_i (h2:=ZQ (by repeat (first|exact QG rfl|exact YM|refine QC rfl ?_)) rfl) ?_ ?_
  ·refine⟨by decide,?_,by decide,?_,by decide,Ya (.f FL) rfl,trivial⟩
   ·show SlotOk _ _ [] (.ptr 100001 1 0) _
    rw[so_pp];exact⟨rfl,rfl,rfl,rfl,by simp,rfl,rfl⟩
   ·show SlotOk _ _ [] (.ptr 100001 1 0) _
    rw[so_pp];exact⟨rfl,rfl,rfl,rfl,by simp,rfl,rfl⟩
  ·refine hl_c (cs0:=[.map 100002 1]) rfl ⟨by rw[so_mm];exact⟨rfl,rfl,rfl,by simp,rfl,rfl⟩,rfl⟩ ?_
   exact⟨⟨rfl,[],rfl,rfl⟩,trivial⟩
 refine KP rfl k2 rfl rfl (Jx (QG rfl) rfl rfl rfl rfl rfl rfl) (by rintro r hl' ⟨rfl,rfl⟩;exact⟨rfl,KL _⟩) (KL _) rfl ?_
 rintro r hl' ⟨rfl,rfl⟩
 clear k2 k1
 dsimp only[hlW]
 refine zrs ?_
 repeat'(first|(simp -implicitDefEqProofs only[*,XG,zr,seval,reduceIte,reduceCtorEq])|(apply zk<;>intro hc)|(refine zp ?_)|(refine zd ?_)|fail)
 refine ax_mlen (L:=toM O) rfl rfl rfl ?_
 have hTl:(toM O).length=O.length:=List.length_map _
 rw[hTl]
 by_cases hb:4000<O.length
 ·have d1:decide ((O.length:Int) > 4000)=true:=decide_eq_true (by omega)
  have d2:decide ((4000:Int)<O.length)=true:=d1
  have hfin:=hide (hbig hb)
  clear hok hbig
  replace hb:=hide hb
  replace hTl:=hide hTl
  refine zrs ?_
  repeat'(first|(simp -implicitDefEqProofs only[*,zr,seval,reduceIte,reduceCtorEq])|(apply zk<;>intro hc)|(refine zp ?_)|(refine zd ?_)|fail)
  exact hfin.out _
 have d1:decide ((O.length:Int) > 4000)=false:=decide_eq_false (by omega)
 have d2:decide ((4000:Int)<O.length)=false:=d1
 have hfin:=hide (hok (by omega))
 have hb4:O.length≤4000:=by omega
 clear hok hbig hb
 replace hTl:=hide hTl
 replace hb4:=hide hb4
 refine zrs ?_
 repeat'(first|(simp -implicitDefEqProofs only[*,zr,seval,reduceIte,reduceCtorEq])|(apply zk<;>intro hc)|(refine zp ?_)|(refine zd ?_)|fail)
 refine ax_rng (L:=toM O) rfl rfl rfl rfl ?_
 rw[hTl.out]
 clear d0 d1 d2
 refine zrs ?_
 repeat'(first|(simp -implicitDefEqProofs only[*,zr,seval,reduceIte,reduceCtorEq])|(apply zk<;>intro hc)|(refine zp ?_)|(refine zd ?_)|fail)
 refine QK (S:=List Nat) 48 [7,32] [] (fun s=>[(8,.sl 60900 1 2 0 (pick O s).length)]) (fun s=>[(60900,1,AObj.cells ((rowF fOb (pick O s)).map .f)),(32,1,AObj.ty (itA 100002 1 O.length s) itTy),(100001,1,AObj.cells [.map 100002 1]),(100002,1,AObj.ty (XK (toM O)) ZD)]) (fun s=>SnOk O.length s) (fun s=>O.length - s.length) ([]) [60900] ?_ ?_ fun s hs=> ?_
 ·exact⟨List.nodup_nil,fun i hi=>by cases hi⟩
 ·refine wk_i (h2:=by repeat (first|exact QG rfl|exact YM|refine QC rfl ?_|refine VE ?_)) ?_ ?_<;>simp only[XG,pick,List.filterMap_nil,List.length_nil,rowF,List.flatMap_nil,List.map_nil,zw,seval,reduceIte,reduceCtorEq]
  refine⟨rfl,⟨rfl,_,rfl,so_it (by rw[so_mm];exact⟨rfl,rfl,rfl,by simp,rfl,rfl⟩)⟩,?_⟩
  exact⟨⟨[.map 100002 1],rfl,by rw[so_mm];exact⟨rfl,rfl,rfl,by simp,rfl,rfl⟩,rfl⟩,⟨rfl,_,rfl,Ul⟩,trivial⟩
 have hN:O.length=(toM O).length:=hTl.out.symm
 replace hN:=hide hN
 refine zrs ?_
 repeat'(first|(simp -implicitDefEqProofs only[*,zr,seval,reduceIte,reduceCtorEq])|(apply zk<;>intro hc)|(refine zp ?_)|(refine zd ?_)|fail)
 refine ax_nxt (L:=toM O) (sn:=s) rfl rfl rfl rfl hN.out (fun hall=> ?_) (fun i p hp hns=> ?_)
 ·have hperm:(pick O s).Perm O:=pick_all hs fun i hi=>hall i (by rw[← hN.out];exact hi)
  have hl:=OS hs.lt
  have hsl:=hs.len
  have hB:(pick O s).length≤1000000:=by have:=hb4.out;omega
  clear hall hl hsl hs
  generalize pick O s=A at*
  refine zrs ?_
  repeat'(first|(simp -implicitDefEqProofs only[*,zr,seval,reduceIte,reduceCtorEq])|(apply zk<;>intro hc)|(refine zp ?_)|(refine zd ?_)|fail)
  refine Ys (f:=_) (args:=_) rfl rfl (QBp (id:=60900) (ver:=1) A rfl hB) fun v H' hq=> ?_
  obtain⟨rfl,l',hp,hsr,rfl⟩:=hq
  have hAl:A.length=l'.length:=hp.length_eq.symm
  have hR:=fun v H=>hfin.out A l' v H hperm hp hsr
  replace hR:=hide hR
  clear hp hsr hperm hB hfin
  rw[hAl]
  clear hAl
  refine zrs ?_
  repeat'(first|(simp -implicitDefEqProofs only[*,zr,seval,reduceIte,reduceCtorEq])|(apply zk<;>intro hc)|(refine zp ?_)|(refine zd ?_)|fail)
  refine hR.out _ _ (ret_vovE rfl rfl (by rw[QD ZZ];exact Nat.le_refl _) rfl)
 ·obtain⟨x,hx,rfl⟩:∃ x,O[i]? = some x∧(x.1,frB x.2)=p:=by
   unfold toM at hp
   rw[List.getElem?_map]at hp
   obtain⟨x,h1,h2⟩:=Option.map_eq_some_iff.1 hp
   exact⟨x,h1,h2⟩
  have hil:i<O.length:=(List.getElem?_eq_some_iff.1 hx).1
  have hsn:=hs.snoc hil hns
  have hl:=OS hs.lt
  have hsl:=hsn.len
  rw[List.length_append]at hsl
  have hsl1:s.length+1≤O.length:=hsl
  have hps:=pick_snoc (sn:=s) hx
  have hrow:(rowF fOb (pick O (s++ [i]))).map AV.f=(rowF fOb (pick O s)).map AV.f++ [.f (.str x.1),.f (frB x.2)]:=by
   rw[hps,Vy,List.map_append];rfl
  have hlen:(pick O (s++ [i])).length=(pick O s).length+1:=by rw[hps,List.length_append];rfl
  have hRL:(rowF fOb (pick O s)).length=(pick O s).length*2:=QD ZZ
  have w6:=eq_true (show((pick O s).length+1)*40≤140737488355328 by have:=hb4.out;omega)
  have hone:(frB x.2).isOne=true:=rfl
  have hmu:O.length - (s++ [i]).length<O.length - s.length:=by rw[List.length_append];show O.length - (s.length+1)<_;omega
  replace hrow:=hide hrow
  replace hlen:=hide hlen
  replace hmu:=hide hmu
  replace hsn:=hide hsn
  have hp2:=hide hp
  clear hp hns hil hl hsl hsl1 hps hx hs
  generalize pick O s=A at*
  obtain⟨t,b⟩:=x
  dsimp only at*
  refine zrs ?_
  repeat'(first|(simp -implicitDefEqProofs only[*,zr,seval,reduceIte,reduceCtorEq])|(apply zk<;>intro hc)|(refine zp ?_)|(refine zd ?_)|fail)
  refine ax_ent (L:=toM O) (i:=i) (sn:=s) rfl rfl rfl rfl hN.out hp2.out ?_
  generalize frB b=B at*
  refine zrs ?_
  repeat'(first|(simp -implicitDefEqProofs only[*,zr,seval,reduceIte,reduceCtorEq])|(apply zk<;>intro hc)|(refine zp ?_)|(refine zd ?_)|fail)
  refine⟨s++ [i],hsn.out,hmu.out,?_⟩
  rw[hrow.out,hlen.out]
  refine wk_i (h2:=by repeat (first|exact QG rfl|exact YM|refine QC rfl ?_|refine VE ?_)) ?_ ?_<;>simp only[XG,zw,seval,reduceIte,reduceCtorEq]
  refine⟨by rw[← hrow.out];exact Vs,⟨rfl,_,rfl,so_it (by rw[so_mm];exact⟨rfl,rfl,rfl,by simp,rfl,rfl⟩)⟩,?_⟩
  exact⟨⟨[.map 100002 1],rfl,by rw[so_mm];exact⟨rfl,rfl,rfl,by simp,rfl,rfl⟩,rfl⟩,⟨rfl,_,rfl,Ul⟩,trivial⟩
theorem putsO_nil:toM [] = []:=rfl
theorem TreeOf_z (l:List FT) (hb:∀ x∈l,x.1.length≤140737488355328∧x.2.2.length≤140737488355328) (hl:(l.length:Int)≤9223372036854775807) (hw:∀ x∈l,(ptF x).size≤200→∀ w∈Xo (ptF x) 47,w.size≤200) :
  FRet Tryz.prog 4 [.f (QY l)] (if ckF l≠0 then [.c (.v (.str ⟨#[]⟩)),.c (.v .nil),.c (.v (.int .i64 (ckF l)))]else if 4000<(objs l).length then [.c (.v (.str ⟨#[]⟩)),.c (.v .nil),.c (.v (.int .i64 2))]else [.c (.v (.str (digV (txt digV 202 l)))),.c (.own 2 (objs l).length (rowF fOb (objs l))),.c (.v (.int .i64 0))]):=by
 have k1:=KU l hb hl hw
 by_cases h0:ckF l=0
 ·rw[if_neg (fun h=>h h0)]
  rw[h0]at k1
  obtain⟨hG,hs,hll,hby,hpt⟩:=QC7 h0
  have hs2:Short 202 l:=fun x hx=>Nat.lt_succ_of_lt (hs x hx)
  have k2:FHi Tryz.prog 11 [.ptr 100001 1 0,.f (QY l)] (hlW []) (fun r hl'=>r=.f (.str (digV (txt digV 202 l)))∧hl'=hlW (toM (OQ [] (cont digV 202 l)))):=by
   rw[← puts_to,putsO_nil]
   by_cases hne:l = []
   ·subst hne;exact wdir_e 201 []
   ·exact wdir_f 202 l [] hG hs2 ⟨hll,hpt,hby⟩ hne
  have hlen:=(OX l).len
  refine TreeOf_w l (OQ [] (cont digV 202 l)) _ k1 k2 _ (fun hbig H=> ?_) (fun hok A l' v H hA hp hsr hr=> ?_)
  ·rw[if_pos (by rw[hlen];exact hbig)]
   exact ret_vvv
  ·rw[if_neg (by rw[hlen];omega)]
   obtain rfl:=objs_eq hA hp hsr
   exact hr
 ·rw[if_pos h0]
  exact TreeOf_e l _ h0 k1
end Go.Proofs.YtjfchihkhpinmaaGreatDoor
