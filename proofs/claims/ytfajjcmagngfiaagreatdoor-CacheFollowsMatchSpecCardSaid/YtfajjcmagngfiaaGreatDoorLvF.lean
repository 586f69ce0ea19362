/-
  cache.Fits. No statement of the seat is proved here; no conditions.
-/
import Derived.Test.YtfajjcmagngfiaaGreatDoorStb
import Derived.Test.YtfajjcmagngfiaaGreatDoorFrz2
import Derived.Test.YtfajjcmagngfiaaGreatDoorLowA
import Derived.Test.YtfajjcmagngfiaaGreatDoorCaU
namespace Go.Proofs.YtfajjcmagngfiaaGreatDoor
open Go.RowKit Go.Shelf
set_option linter.unusedVariables false
set_option linter.unusedSimpArgs false
set_option maxRecDepth 100000

theorem ret_0 {H:Heap} : Rets [] (.tup []) H:=⟨[],rfl,rfl,List.nodup_nil⟩
theorem insertion_0 (fn:FuncId):FRet Tryz.prog 120 [.f (.fr 5 []),.f (.int .i64 0),.f (.int .i64 0),.f (.fn (.func fn))] []:=by
 refine FCall.of_ax low_slices_insertionSortCmpFunc_api_Blob ?_
 dsimp only[jm,ji,jf,jl,jL,jn,je,jx,jT,jC,jB,jq,jt,ju,jA,km,kf,kl,kn,kx,l_slices_insertionSortCmpFunc_api_Blob]
 refine zs ?_
 have w1:IntKind.i64.wrap (0+1)=1:=by decide
 have w2:IntKind.i64.wrap 1=1:=by decide
 repeat'(first|(simp -implicitDefEqProofs only[*,Int.reduceAdd,zr,seval,reduceIte,reduceCtorEq])|(apply zk<;>intro hc)|(refine zp ?_)|(refine zd ?_)|fail)
 refine ax_loopU (S:=Nat) 53 [0,1,2,3] [] (fun s=>[(8,.f (.int .i64 1))]) (fun s=>[]) (fun s=>True) (fun s=>0) (0) [] ?_ ?_ fun s hs=> ?_
 ·trivial
 ·refine wk_i ?_ ?_<;>simp only[zw,seval,reduceIte,reduceCtorEq]
 refine zs ?_
 have h2:decide ((1:Int)<0)=false:=by decide
 repeat'(first|(simp -implicitDefEqProofs only[*,zr,seval,reduceIte,reduceCtorEq])|(apply zk<;>intro hc)|(refine zp ?_)|(refine zd ?_)|fail)
 exact ret_0
theorem stable_0 (fn:FuncId):FRet Tryz.prog 112 [.f (.fr 5 []),.f (.int .i64 0),.f (.fn (.func fn))] []:=by
 refine FCall.of_ax low_slices_stableCmpFunc_api_Blob ?_
 dsimp only[jm,ji,jf,jl,jL,jn,je,jx,jT,jC,jB,jq,jt,ju,jA,km,kf,kl,kn,kx,l_slices_stableCmpFunc_api_Blob]
 refine zs ?_
 repeat'(first|(simp -implicitDefEqProofs only[*,zr,seval,reduceIte,reduceCtorEq])|(apply zk<;>intro hc)|(refine zp ?_)|(refine zd ?_)|fail)
 refine ax_loopU (S:=Nat) 63 [0,1,2,6] [] (fun s=>[(7,.f (.int .i64 0)),(8,.f (.int .i64 20))]) (fun s=>[]) (fun s=>True) (fun s=>0) (0) [] ?_ ?_ fun s hs=> ?_
 ·trivial
 ·refine wk_i ?_ ?_<;>simp only[zw,seval,reduceIte,reduceCtorEq]
 refine zs ?_
 repeat'(first|(simp -implicitDefEqProofs only[*,zr,seval,reduceIte,reduceCtorEq])|(apply zk<;>intro hc)|(refine zp ?_)|(refine zd ?_)|(refine cP (insertion_0 fn) ?_)|(refine cD (insertion_0 fn) ?_)|(refine cF (insertion_0 fn) ?_)|(refine cO (insertion_0 fn) ?_)|fail)
 refine ax_loopU (S:=Nat) 63 [0,1,2] [] (fun s=>[(6,.f (.int .i64 20))]) (fun s=>[]) (fun s=>True) (fun s=>0) (0) [] ?_ ?_ fun s hs=> ?_
 ·trivial
 ·refine wk_i ?_ ?_<;>simp only[zw,seval,reduceIte,reduceCtorEq]
 refine zs ?_
 repeat'(first|(simp -implicitDefEqProofs only[*,zr,seval,reduceIte,reduceCtorEq])|(apply zk<;>intro hc)|(refine zp ?_)|(refine zd ?_)|fail)
 exact ret_0
theorem sortStable_0 (fn:FuncId):FRet Tryz.prog 104 [.f (.fr 5 []),.f (.fn (.func fn))] []:=by
 refine FCall.of_ax low_slices_SortStableFunc_api_Blob_api_Blob ?_
 dsimp only[jm,ji,jf,jl,jL,jn,je,jx,jT,jC,jB,jq,jt,ju,jA,km,kf,kl,kn,kx,l_slices_SortStableFunc_api_Blob_api_Blob]
 refine zs ?_
 repeat'(first|(simp -implicitDefEqProofs only[*,zr,seval,reduceIte,reduceCtorEq])|(apply zk<;>intro hc)|(refine zp ?_)|(refine zd ?_)|(refine cP (stable_0 fn) ?_)|(refine cD (stable_0 fn) ?_)|(refine cF (stable_0 fn) ?_)|(refine cO (stable_0 fn) ?_)|fail)
 exact ret_0
def cmpI (x y:Int):Int:=if x<y then -1 else if y<x then 1 else 0
theorem isNaN_f (x:Int):FRet Tryz.prog 113 [.f (.int .i64 x)] [.c (.v (.bool false))]:=by
 refine FCall.of_ax low_cmp_isNaN_int ?_
 dsimp only[jm,ji,jf,jl,jL,jn,je,jx,jT,jC,jB,jq,jt,ju,jA,km,kf,kl,kn,kx,l_cmp_isNaN_int]
 refine zs ?_
 have h:decide (x≠x)=false:=dcF (by simp)
 have h1:decide (¬ x=x)=false:=dcF (by simp)
 repeat'(first|(simp -implicitDefEqProofs only[*,zr,seval,reduceIte,reduceCtorEq])|(apply zk<;>intro hc)|(refine zp ?_)|(refine zd ?_)|fail)
 exact ret_v
theorem cmpInt_f (x y:Int):FRet Tryz.prog 106 [.f (.int .i64 x),.f (.int .i64 y)] [.c (.v (.int .i64 (cmpI x y)))]:=by
 refine FCall.of_ax low_cmp_Compare_int ?_
 dsimp only[jm,ji,jf,jl,jL,jn,je,jx,jT,jC,jB,jq,jt,ju,jA,km,kf,kl,kn,kx,l_cmp_Compare_int]
 refine zs ?_
 unfold cmpI
 rcases Int.lt_trichotomy x y with h|h|h
 ·have d1:decide (x<y)=true:=dcT h
  rw[if_pos h]
  replace h:=hide h
  repeat'(first|(simp -implicitDefEqProofs only[*,zr,seval,reduceIte,reduceCtorEq])|(apply zk<;>intro hc)|(refine zp ?_)|(refine zd ?_)|(refine cP (isNaN_f x) ?_)|(refine cD (isNaN_f x) ?_)|(refine cF (isNaN_f x) ?_)|(refine cO (isNaN_f x) ?_)|(refine cP (isNaN_f y) ?_)|(refine cD (isNaN_f y) ?_)|(refine cF (isNaN_f y) ?_)|(refine cO (isNaN_f y) ?_)|fail)
  all_goals exact ret_v
 ·subst h
  have d1:decide (x<x)=false:=dcF (by omega)
  have d2:decide (x > x)=false:=dcF (by omega)
  rw[if_neg (by omega),if_neg (by omega)]
  repeat'(first|(simp -implicitDefEqProofs only[*,zr,seval,reduceIte,reduceCtorEq])|(apply zk<;>intro hc)|(refine zp ?_)|(refine zd ?_)|(refine cP (isNaN_f x) ?_)|(refine cD (isNaN_f x) ?_)|(refine cF (isNaN_f x) ?_)|(refine cO (isNaN_f x) ?_)|fail)
  all_goals exact ret_v
 ·have d1:decide (x<y)=false:=dcF (by omega)
  have d2:decide (y<x)=true:=dcT h
  have d3:decide (x > y)=true:=dcT h
  rw[if_neg (by omega),if_pos h]
  replace h:=hide h
  repeat'(first|(simp -implicitDefEqProofs only[*,zr,seval,reduceIte,reduceCtorEq])|(apply zk<;>intro hc)|(refine zp ?_)|(refine zd ?_)|(refine cP (isNaN_f x) ?_)|(refine cD (isNaN_f x) ?_)|(refine cF (isNaN_f x) ?_)|(refine cO (isNaN_f x) ?_)|(refine cP (isNaN_f y) ?_)|(refine cD (isNaN_f y) ?_)|(refine cF (isNaN_f y) ?_)|(refine cO (isNaN_f y) ?_)|fail)
  all_goals exact ret_v
theorem leav2_f (x y:Blob):FRet Tryz.prog 105 [.agg ((fBlob x).map .f),.agg ((fBlob y).map .f)] [.c (.v (.int .i64 (cmpI x.2.2.1 y.2.2.1)))]:=by
 obtain⟨x1,x2,x3,x4,x5⟩:=x
 obtain⟨y1,y2,y3,y4,y5⟩:=y
 refine FCall.of_ax low_cache_leaving_c2 ?_
 dsimp only[jm,ji,jf,jl,jL,jn,je,jx,jT,jC,jB,jq,jt,ju,jA,km,kf,kl,kn,kx,l_cache_leaving_c2,fBlob,List.map_cons,List.map_nil]
 refine zs ?_
 repeat'(first|(simp -implicitDefEqProofs only[*,zr,seval,reduceIte,reduceCtorEq])|(apply zk<;>intro hc)|(refine zp ?_)|(refine zd ?_)|(refine cP (cmpInt_f x3 y3) ?_)|(refine cD (cmpInt_f x3 y3) ?_)|(refine cF (cmpInt_f x3 y3) ?_)|(refine cO (cmpInt_f x3 y3) ?_)|fail)
 all_goals exact ret_v
def ltB (x y:Blob):Bool:=decide (x.2.2.1<y.2.2.1)||(decide (x.2.2.1=y.2.2.1)&&strLt x.1 y.1)
theorem ltB_iff {x y:Blob} : ltB x y=true↔x.2.2.1<y.2.2.1∨(x.2.2.1=y.2.2.1∧strLt x.1 y.1=true):=by
 unfold ltB
 rw[Bool.or_eq_true,Bool.and_eq_true,decide_eq_true_eq,decide_eq_true_eq]
theorem cmpI_neg {x y:Int} : cmpI x y<0↔x<y:=by
 unfold cmpI
 split
 ·simp_all
 ·split<;>simp_all
def RiseB (l:List Blob):Prop:=l.Pairwise fun x y=>strLt x.1 y.1=true
theorem RiseB.lt {l:List Blob}(h:RiseB l){i j:Nat}{x y:Blob}(hij:i<j) (hx:l[i]? = some x) (hy:l[j]? = some y):strLt x.1 y.1=true:=by
 obtain⟨b1,b2⟩:=List.getElem?_eq_some_iff.1 hx
 obtain⟨c1,c2⟩:=List.getElem?_eq_some_iff.1 hy
 have:=List.pairwise_iff_getElem.1 h i j b1 c1 hij
 rw[b2,c2]at this;exact this
theorem RiseB.inj {l:List Blob}(h:RiseB l){x y:Blob}(hx:x∈l) (hy:y∈l) (he:x.1=y.1):x=y:=by
 obtain⟨i,hi⟩:=List.mem_iff_getElem?.1 hx
 obtain⟨j,hj⟩:=List.mem_iff_getElem?.1 hy
 rcases Nat.lt_trichotomy i j with h1|h1|h1
 ·exact absurd he (strLt_ne (h.lt h1 hi hj))
 ·subst h1;rw[hi]at hj;exact Option.some.inj hj
 ·exact absurd he.symm (strLt_ne (h.lt h1 hj hi))
theorem ordB {l:List Blob}(h:RiseB l):OrdOn ltB l:=by
 refine⟨?_,?_,?_,?_⟩
 ·intro x y z _ _ _ h1 h2
  rw[ltB_iff]at*
  rcases h1 with h1|⟨h1,h1'⟩<;>rcases h2 with h2|⟨h2,h2'⟩
  ·left;omega
  ·left;omega
  ·left;omega
  ·right;exact⟨by omega,strLt_trans h1' h2'⟩
 ·intro x y _ _ h1
  rw[Bool.eq_false_iff]
  intro h2
  rw[ltB_iff]at h1 h2
  rcases h1 with h1|⟨h1,h1'⟩<;>rcases h2 with h2|⟨h2,h2'⟩
  ·omega
  ·omega
  ·omega
  ·rw[strLt_asymm h1']at h2';cases h2'
 ·intro x y hx hy h1
  rw[Bool.eq_false_iff]at h1
  rcases Int.lt_trichotomy x.2.2.1 y.2.2.1 with e|e|e
  ·exact absurd (ltB_iff.2 (Or.inl e)) h1
  ·rcases hs:strLt x.1 y.1 with _|_
   ·rcases strLt_total hs with e2|e2
    ·exact Or.inl (h.inj hx hy e2)
    ·exact Or.inr (ltB_iff.2 (Or.inr ⟨e.symm,e2⟩))
   ·exact absurd (ltB_iff.2 (Or.inr ⟨e,hs⟩)) h1
  ·exact Or.inr (ltB_iff.2 (Or.inl e))
 ·refine List.Pairwise.imp ?_ h
  intro x y hxy e
  subst e
  rw[strLt_irrefl]at hxy;cases hxy
theorem keyB {l:List Blob}(h:RiseB l) (i j:Nat) (x y:Blob) (hij:i<j) (hy:l[i]? = some y) (hx:l[j]? = some x):decide (cmpI x.2.2.1 y.2.2.1<0)=ltB x y:=by
 have h1:=strLt_asymm (h.lt hij hy hx)
 unfold ltB
 rw[h1,Bool.and_false,Bool.or_false]
 exact decide_eq_decide.2 cmpI_neg
theorem sortBlobs_f (M:List Blob) (hn0:0<M.length) (hl:M.length≤1000000) (h:RiseB M) :
  FRetI Tryz.prog 104 5 M.length ((cellsB M).map .v) [] [.f (.fn (.func 105))] ((cellsB (sortT ltB M)).map .v) []:=
 sortStable_f M ltB (fun x y=>cmpI x.2.2.1 y.2.2.1) 105 leav2_f hn0 hl (ordB h) (fun i j x y hij hy hx=>keyB h i j x y hij hy hx)
theorem leav1_f (b:Blob) (at_:Int):FRet Tryz.prog 103 ([.agg ((fBlob b).map .f)]++ [.f (.fp [.int .i64 at_])]) [.c (.v (.bool (heldB b at_)))]:=by
 refine FCall.of_ax low_cache_leaving_c1 ?_
 dsimp only[jm,ji,jf,jl,jL,jn,je,jx,jT,jC,jB,jq,jt,ju,jA,km,kf,kl,kn,kx,l_cache_leaving_c1,fBlob,List.map_cons,List.map_nil,List.cons_append,List.nil_append]
 refine zs ?_
 repeat'(first|(simp -implicitDefEqProofs only[*,zr,seval,reduceIte,reduceCtorEq])|(apply zk<;>intro hc)|(refine zp ?_)|(refine zd ?_)|(refine cP (held_f b at_) ?_)|(refine cD (held_f b at_) ?_)|(refine cF (held_f b at_) ?_)|(refine cO (held_f b at_) ?_)|fail)
 exact ret_v
def leavV (bl:List Blob) (at_:Int):List Blob:=sortT ltB (keepL (fun b:Blob=>heldB b at_) bl)
theorem keepL_rise {p:Blob→Bool}{l:List Blob}(h:RiseB l):RiseB (keepL p l):=List.Pairwise.sublist List.filter_sublist h
theorem leaving_f (room lease:Int) (bl:List Blob) (en:List Entry) (at_:Int) (hb:bl.length≤1000000) (hr:RiseB bl):FRet Tryz.prog 88 [aCache (room,lease,bl,en),.f (.int .i64 at_)] [.c (.own 5 (leavV bl at_).length (rowF fBlob (leavV bl at_)))]:=by
 refine FCall.of_ax low_cache_leaving ?_
 dsimp only[jm,ji,jf,jl,jL,jn,je,jx,jT,jC,jB,jq,jt,ju,jA,km,kf,kl,kn,kx,l_cache_leaving,aCache]
 refine zs ?_
 repeat'(first|(simp -implicitDefEqProofs only[*,zr,seval,reduceIte,reduceCtorEq])|(apply zk<;>intro hc)|(refine zp ?_)|(refine zd ?_)|(refine cP (cloneB_f bl hb) ?_)|(refine cD (cloneB_f bl hb) ?_)|(refine cF (cloneB_f bl hb) ?_)|(refine cO (cloneB_f bl hb) ?_)|fail)
 refine ax_weakA [] (nw:=[]) (n:=14) (el:=[(8,.sl 8 1 5 0 bl.length),(9,.clo (.func 103) [.f (.fp [.int .i64 at_])])]) (hl:=[(8,1,.cells ((rowF fBlob bl).map .f))]) rfl ?_ ?_
 ·refine wk_i ?_ ?_<;>simp only[so_mf,mapOfH_some,so_ptf,so_cc,so_ff',cellsOf_some,List.drop_zero,List.take_succ_cons,List.take_zero,Nat.zero_add,Nat.le_refl,zw,seval,reduceIte,reduceCtorEq]
 refine callM rfl (delf_blob bl _ [.f (.fp [.int .i64 at_])] (fun b=>heldB b at_) hb (fun x _=>leav1_f x at_) rfl) rfl [.sl 8 1 5 0 bl.length] [.clo (.func 103) [.f (.fp [.int .i64 at_])]] rfl ⟨.inr ⟨_,_,rfl,rfl,by rw[row_len (sz:=5) (fun _=>rfl)];exact Nat.le_refl _⟩,rfl⟩ (by simp [idsS]) (LeL.refl _) rfl (by first|exact free_mk rfl|exact free_mk (by simp)) ?_
 have hS:=fun hne=>sortBlobs_f (keepL (fun b:Blob=>heldB b at_) bl) hne (Nat.le_trans (List.length_filter_le _ _) hb) (keepL_rise hr)
 have hL:(leavV bl at_).length=(keepL (fun b:Blob=>heldB b at_) bl).length:=sortT_len
 rw[hL]
 unfold leavV
 generalize keepL (fun b:Blob=>heldB b at_) bl=K at*
 repeat'(first|(simp -implicitDefEqProofs only[*,zr,seval,reduceIte,reduceCtorEq])|(apply zk<;>intro hc)|(refine zp ?_)|(refine zd ?_)|fail)
 rcases Nat.eq_zero_or_pos K.length with h0|hne
 ·obtain rfl:K = []:=List.eq_nil_of_length_eq_zero h0
  refine ax_cut (id:=10) (v:=1) (cs:=[]) (by rw[upd_same,List.map_append];rfl) ?_
  rw[upd_upd]
  refine ax_empty (t:=11) (id:=10) (ver:=1) (sz:=5) (off:=0) (cs:=[]) rfl rfl ?_
  dsimp only
  refine zs ?_
  clear hS hL h0
  repeat'(first|(simp -implicitDefEqProofs only[*,zr,seval,reduceIte,reduceCtorEq])|(apply zk<;>intro hc)|(refine zp ?_)|(refine zd ?_)|(refine cP (sortStable_0 105) ?_)|(refine cD (sortStable_0 105) ?_)|(refine cF (sortStable_0 105) ?_)|(refine cO (sortStable_0 105) ?_)|fail)
  exact⟨[.sl 10 1 5 0 0],rfl,⟨.inr ⟨10,1,rfl,rfl,Nat.zero_le _⟩,rfl⟩,by simp [idsS]⟩
 ·refine ax_cut (id:=10) (v:=1) (cs:=(rowF fBlob K).map .f) (by rw[upd_same,List.map_append]) ?_
  rw[upd_upd]
  refine callIm hne rfl (hS hne) rfl 10 1 ((cellsB K).map .f) [] [_] rfl rfl (rcsOk_v _) rfl (by rw[idsC_f];exact List.nodup_nil) (by rw[idsC_f];simp [idsS]) (LeL.refl _) rfl (by repeat (first|exact free_0|exact free_mk (by simp)|refine free_upd rfl ?_)) ?_
  rw[putCs_v,putHcs_v,idsC_f]
  unfold cellsB
  have hZ:(sortT ltB K).length=K.length:=sortT_len
  repeat'(first|(simp -implicitDefEqProofs only[*,zr,seval,reduceIte,reduceCtorEq])|(apply zk<;>intro hc)|(refine zp ?_)|(refine zd ?_)|fail)
  exact⟨[.sl 10 1 5 0 K.length],rfl,⟨.inr ⟨10,1,rfl,rfl,by rw[row_len (sz:=5) (fun _=>rfl),hZ];exact Nat.le_refl _⟩,rfl⟩,by simp [idsS]⟩
theorem sumOf_f (l:List Blob) (hb:l.length≤1000000):FRet Tryz.prog 89 [.f (frBlobs l)] [.c (.v (.int .i64 (wsum l)))]:=by
 refine FCall.of_ax low_cache_sumOf ?_
 dsimp only[jm,ji,jf,jl,jL,jn,je,jx,jT,jC,jB,jq,jt,ju,jA,km,kf,kl,kn,kx,l_cache_sumOf]
 refine zs ?_
 repeat'(first|(simp -implicitDefEqProofs only[*,zr,seval,reduceIte,reduceCtorEq])|(apply zk<;>intro hc)|(refine zp ?_)|(refine zd ?_)|(refine cP (used_f (0,0,l,[]) (by show(l.length:Int)≤_;omega)) ?_)|(refine cD (used_f (0,0,l,[]) (by show(l.length:Int)≤_;omega)) ?_)|(refine cF (used_f (0,0,l,[]) (by show(l.length:Int)≤_;omega)) ?_)|(refine cO (used_f (0,0,l,[]) (by show(l.length:Int)≤_;omega)) ?_)|fail)
 exact ret_v
theorem keep_take_in {p:Blob→Bool}{bl:List Blob}{i:Nat}{x:Blob}(hx:bl[i]? = some x) (hp:p x=true):keepL p (bl.take (i+1))=keepL p (bl.take i):=by
 rw[keep_snoc hx,hp];simp
theorem keep_take_out {p:Blob→Bool}{bl:List Blob}{i:Nat}{x:Blob}(hx:bl[i]? = some x) (hp:p x=false):keepL p (bl.take (i+1))=keepL p (bl.take i)++ [x]:=by
 rw[keep_snoc hx,hp];simp
theorem RiseB.take {bl:List Blob}(h:RiseB bl) (i:Nat):RiseB (bl.take i):=List.Pairwise.sublist (List.take_sublist i bl) h
theorem mem_keepL {α : Type}{p : α→Bool}{l:List α}{x : α} : x∈keepL p l↔x∈l∧p x=false:=by
 unfold keepL;rw[List.mem_filter];simp
theorem leav_mem {bl:List Blob}{at_:Int}{x:Blob} : x∈leavV bl at_↔x∈bl∧heldB x at_=false:=by
 unfold leavV
 rw[(sortT_perm ltB _).mem_iff,mem_keepL]
theorem leav_sorted {bl:List Blob}{at_:Int}(h:RiseB bl):SortedT ltB (leavV bl at_):=sortT_sorted (ordB (keepL_rise h))
theorem leav_in {bl:List Blob}{at_:Int}{i:Nat}{x:Blob}(hx:bl[i]? = some x) (hp:heldB x at_=true):leavV (bl.take (i+1)) at_=leavV (bl.take i) at_:=by
 unfold leavV
 rw[keep_take_in hx hp]
theorem leav_out {bl:List Blob}{at_:Int}{i k:Nat}{x:Blob}(hr:RiseB bl) (hx:bl[i]? = some x) (hp:heldB x at_=false) (hk:k≤(leavV (bl.take i) at_).length)
  (h1:∀ (m:Nat) y,k≤m→(leavV (bl.take i) at_)[m]? = some y→x.2.2.1<y.2.2.1) (h2:k=0∨∃ y,(leavV (bl.take i) at_)[k - 1]? = some y∧y.2.2.1≤x.2.2.1) :
  leavV (bl.take (i+1)) at_=(leavV (bl.take i) at_).take k++x::(leavV (bl.take i) at_).drop k:=by
 have hS:SortedT ltB (leavV (bl.take i) at_):=leav_sorted (hr.take i)
 have hlt:∀ y∈leavV (bl.take i) at_,strLt y.1 x.1=true:=fun y hy=>by
  obtain⟨j,hj⟩:=List.mem_iff_getElem?.1 (leav_mem.1 hy).1
  rw[List.getElem?_take]at hj
  split at hj
  ·exact hr.lt (by assumption) hj hx
  ·cases hj
 have hO:OrdOn ltB (leavV (bl.take (i+1)) at_):=(ordB (keepL_rise (hr.take (i+1)))).perm (sortT_perm ltB _)
 refine sorted_unique hO ?_ (leav_sorted (hr.take (i+1))) ?_
 ·have e1:(leavV (bl.take (i+1)) at_).Perm (keepL (fun b:Blob=>heldB b at_) (bl.take i)++ [x]):=by
   unfold leavV;rw[keep_take_out hx hp];exact sortT_perm ltB _
  have e2:(leavV (bl.take i) at_).Perm (keepL (fun b:Blob=>heldB b at_) (bl.take i)):=sortT_perm ltB _
  refine e1.trans ?_
  refine(List.perm_append_comm).trans ?_
  refine List.Perm.trans ?_ (List.perm_middle (l₁:=(leavV (bl.take i) at_).take k) (l₂:=(leavV (bl.take i) at_).drop k) (a:=x)).symm
  rw[List.take_append_drop]
  exact e2.symm.cons x
 ·refine List.pairwise_append.2 ⟨hS.sublist (List.take_sublist _ _),List.pairwise_cons.2 ⟨fun z hz=> ?_,hS.sublist (List.drop_sublist _ _)⟩,fun y hy z hz=> ?_⟩
  ·obtain⟨j,hj⟩:=List.mem_iff_getElem?.1 hz
   rw[List.getElem?_drop]at hj
   exact ltB_iff.2 (Or.inl (h1 _ z (by omega) hj))
  ·have hyx:ltB y x=true:=by
    obtain⟨j,hj⟩:=List.mem_iff_getElem?.1 hy
    rw[List.getElem?_take]at hj
    split at hj
    ·rename_i hjk
     have hd:=hlt y (List.mem_of_getElem? hj)
     rcases h2 with rfl|⟨w,hw,hwx⟩
     ·omega
     ·have hyw:y.2.2.1≤w.2.2.1:=by
       by_cases e:j=k - 1
       ·subst e;rw[hj]at hw;obtain rfl:=Option.some.inj hw;exact Int.le_refl _
       ·obtain⟨b1,b2⟩:=List.getElem?_eq_some_iff.1 hj
        obtain⟨c1,c2⟩:=List.getElem?_eq_some_iff.1 hw
        have:=List.pairwise_iff_getElem.1 hS j (k - 1) b1 c1 (by omega)
        rw[b2,c2,ltB_iff]at this
        omega
      refine ltB_iff.2 ?_
      by_cases e:y.2.2.1<x.2.2.1
      ·exact Or.inl e
      ·exact Or.inr ⟨by omega,hd⟩
    ·cases hj
   rcases List.mem_cons.1 hz with rfl|hz
   ·exact hyx
   ·obtain⟨j,hj⟩:=List.mem_iff_getElem?.1 hz
    rw[List.getElem?_drop]at hj
    have hxz:=h1 _ z (by omega) hj
    rw[ltB_iff]at hyx
    exact ltB_iff.2 (Or.inl (by omega))
theorem leav_nil {at_:Int} : leavV [] at_ = []:=rfl
end Go.Proofs.YtfajjcmagngfiaaGreatDoor
