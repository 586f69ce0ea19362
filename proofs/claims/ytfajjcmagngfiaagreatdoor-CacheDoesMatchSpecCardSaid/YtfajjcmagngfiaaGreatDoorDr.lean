/-
  cache.do. No statement of the seat is proved here; no conditions.
-/
import Derived.Test.YtfajjcmagngfiaaGreatDoorDp
namespace Go.Proofs.YtfajjcmagngfiaaGreatDoor
open Go.RowKit Go.Shelf
set_option linter.unusedVariables false
set_option linter.unusedSimpArgs false
set_option maxRecDepth 100000

set_option maxHeartbeats 4000000 in
theorem do_old {room lease : Int} {bl : List Blob} {en : List Entry} {e : Ev} (h : DoOk room bl en e) (hk : ckEv e = 0) (hn : e.2.1 < newestV bl en) : DoF room lease bl en e (bl,en,false,.v .nil,.v .nil,11) := by
 have hc := checkEvent_f e h.hd
 have hN := newest_f (room,lease,bl,en) h.hb h.he
 rw [hk] at hc
 replace hk := hide hk
 replace h := hide h
 obtain ⟨kind,at_,dg,ds,key,size⟩ := e
 dsimp only at hn
 have d0 : decide ((0 : Int) = 0) = true := rfl
 refine FCall.of_ax low_cache_do ?_
 dsimp only [jm,ji,jf,jl,jL,jn,je,jx,jT,jC,jB,jq,jt,ju,jA,km,kf,kl,kn,kx,l_cache_do,aEv] at hc ⊢
 refine zs ?_
 repeat'(first|(simp -implicitDefEqProofs only [*,addFp_wr,zr,seval,reduceIte,reduceCtorEq])|(apply zk<;>intro hc)|(refine zp ?_)|(refine zd ?_)|(refine cP (hc) ?_)|(refine cD (hc) ?_)|(refine cF (hc) ?_)|fail)
 refine gDC (tl := []) hN rfl rfl ?_
 clear hN
 generalize newestV bl en = nw at *
 have dn : decide (at_ < nw) = true := dcT hn
 replace hn := hide hn
 repeat'(first|(simp -implicitDefEqProofs only [*,addFp_wr,zr,seval,reduceIte,reduceCtorEq])|(apply zk<;>intro hc)|(refine zp ?_)|(refine zd ?_)|fail)
 exact end_a rfl rfl rfl (lenB rfl) (lenE rfl)
theorem ckEv_kind {e : Ev} (h : ckEv e = 0) : 1 ≤ e.1 ∧ e.1 ≤ 8 := by
 unfold ckEv at h
 split at h
 ·rename_i hr
  simp only [inRg,Bool.and_eq_true,decide_eq_true_eq] at hr
  exact hr
 ·cases h
theorem do_f {room lease : Int} {bl : List Blob} {en : List Entry} {e : Ev} (hl : (e.2.2.2.1.length : Int) ≤ 9223372036854775807) (h : ckEv e = 0 → DoOk room bl en e) : DoF room lease bl en e (doV room lease bl en e) := by
 by_cases hk : ckEv e = 0
 ·have h := h hk
  by_cases hn : e.2.1 < newestV bl en
  ·have e0 : doV room lease bl en e = (bl,en,false,.v .nil,.v .nil,11) := by rw [doV,if_pos hk,if_pos hn]
   rw [e0];exact do_old h hk hn
  ·have e0 : doV room lease bl en e = actV room lease bl en e := by rw [doV,if_pos hk,if_neg hn]
   rw [e0]
   have hr := ckEv_kind hk
   by_cases k1 : e.1 = 1
   ·exact do_put h hk hn k1
   by_cases k2 : e.1 = 2
   ·exact do_get h hk hn k2
   by_cases k3 : e.1 = 3
   ·exact do_ask h hk hn k3
   by_cases k4 : e.1 = 4
   ·exact do_pin h hk hn k4
   by_cases k5 : e.1 = 5
   ·exact do_unpin h hk hn k5
   by_cases k6 : e.1 = 6
   ·exact do_store h hk hn k6
   by_cases k7 : e.1 = 7
   ·exact do_search h hk hn k7
   exact do_drop h hk hn (by omega)
 ·have e0 : doV room lease bl en e = (bl,en,false,.v .nil,.v .nil,ckEv e) := by rw [doV,if_neg hk]
  rw [e0];exact do_bad hl hk
end Go.Proofs.YtfajjcmagngfiaaGreatDoor
namespace Go.Proofs.YtfajjcmagngfiaaGreatDoor
open Go.RowKit Go.Shelf
set_option linter.unusedVariables false
set_option linter.unusedSimpArgs false
set_option maxRecDepth 100000

def zC : RS := .agg [.v (.int .i64 0),.v (.int .i64 0),.v .nil,.v .nil]
set_option maxHeartbeats 4000000 in
theorem Do_bad (c : Cache) (e : Ev) (hb : CBound c) (hk : ckCache c ≠ 0) : FRet Tryz.prog 5 [aCache c,aEv e] [zC,rAns false .nil .nil,.c (.v (.int .i64 (ckCache c)))] := by
 have hc := CheckCache_f isDigest_f c hb
 generalize ckCache c = q at *
 have d1 : decide (q = 0) = false := dcF hk
 replace hk := hide hk
 replace hb := hide hb
 obtain ⟨room,lease,bl,en⟩ := c
 obtain ⟨kind,at_,dg,ds,key,size⟩ := e
 refine FCall.of_ax low_cache_Do ?_
 dsimp only [jm,ji,jf,jl,jL,jn,je,jx,jT,jC,jB,jq,jt,ju,jA,km,kf,kl,kn,kx,l_cache_Do,aEv,aCache] at hc ⊢
 refine zs ?_
 repeat'(first|(simp -implicitDefEqProofs only [*,addFp_wr,zr,seval,reduceIte,reduceCtorEq])|(apply zk<;>intro hc)|(refine zp ?_)|(refine zd ?_)|(refine cP (hc) ?_)|(refine cD (hc) ?_)|(refine cF (hc) ?_)|(refine cO (hc) ?_)|fail)
 exact ⟨[.agg [.f (.int .i64 0),.f (.int .i64 0),.f .nil,.f .nil],.agg [.f (.bool false),.f .nil,.f .nil],.f (.int .i64 q)],rfl,⟨⟨rfl,rfl,rfl,rfl,rfl⟩,⟨rfl,rfl,rfl,rfl⟩,rfl,rfl⟩,by simp [idsS,idsC]⟩
set_option maxHeartbeats 4000000 in
theorem Do_flt (c : Cache) (e : Ev) (hb : CBound c) (hk : ckCache c = 0) (hl : c.2.2.1.length ≤ 1000000) (he : c.2.2.2.length ≤ 1000000) (hr : ∀ x ∈ c.2.2.2,x.2.1.length ≤ 1000000) {B : List Blob} {E : List Entry} {b : Bool} {ft : Int} {x : FV}
  (hD : DoF c.1 c.2.1 c.2.2.1 c.2.2.2 e (B,E,b,.v .nil,.v x,ft)) (hf : ft ≠ 0) : FRet Tryz.prog 5 [aCache c,aEv e] [zC,rAns false .nil .nil,.c (.v (.int .i64 ft))] := by
 have hc := CheckCache_f isDigest_f c hb
 have hO := own_f c hl he hr
 rw [hk] at hc
 have d0 : decide ((0 : Int) = 0) = true := rfl
 have d1 : decide (ft = 0) = false := dcF hf
 replace hf := hide hf
 replace hb := hide hb
 replace hr := hide hr
 clear hk
 obtain ⟨room,lease,bl,en⟩ := c
 obtain ⟨kind,at_,dg,ds,key,size⟩ := e
 dsimp only [DoF,rAnsM] at hD
 refine FCall.of_ax low_cache_Do ?_
 dsimp only [jm,ji,jf,jl,jL,jn,je,jx,jT,jC,jB,jq,jt,ju,jA,km,kf,kl,kn,kx,l_cache_Do,aEv,aCache] at hc hO ⊢
 refine zs ?_
 repeat'(first|(simp -implicitDefEqProofs only [*,addFp_wr,zr,seval,reduceIte,reduceCtorEq])|(apply zk<;>intro hc)|(refine zp ?_)|(refine zd ?_)|(refine cP (hc) ?_)|(refine cD (hc) ?_)|(refine cF (hc) ?_)|(refine cO (hc) ?_)|(refine cP (hO) ?_)|(refine cD (hO) ?_)|(refine cF (hO) ?_)|(refine cO (hO) ?_)|fail)
 refine gP hD 2 1 [.f (.int .i64 room),.f (.int .i64 lease),.sl 18 1 5 0 bl.length,.sl 1018 1 3 0 en.length] [] [aEv (kind,at_,dg,ds,key,size)] ?_
 clear hD
 repeat'(first|(simp -implicitDefEqProofs only [*,addFp_wr,zr,seval,reduceIte,reduceCtorEq])|(apply zk<;>intro hc)|(refine zp ?_)|(refine zd ?_)|fail)
 exact ⟨[.agg [.f (.int .i64 0),.f (.int .i64 0),.f .nil,.f .nil],.agg [.f (.bool false),.f .nil,.f .nil],.f (.int .i64 ft)],rfl,⟨⟨rfl,rfl,rfl,rfl,rfl⟩,⟨rfl,rfl,rfl,rfl⟩,rfl,rfl⟩,by simp [idsS,idsC]⟩
set_option maxHeartbeats 4000000 in
theorem Do_ok (c : Cache) (e : Ev) (hb : CBound c) (hk : ckCache c = 0) (hl : c.2.2.1.length ≤ 1000000) (he : c.2.2.2.length ≤ 1000000) (hr : ∀ x ∈ c.2.2.2,x.2.1.length ≤ 1000000) {B : List Blob} {E : List Entry} {b : Bool} {x : FV}
  (hD : DoF c.1 c.2.1 c.2.2.1 c.2.2.2 e (B,E,b,.v .nil,.v x,0)) : FRet Tryz.prog 5 [aCache c,aEv e] [.agg [.v (.int .i64 c.1),.v (.int .i64 c.2.1),.own 5 B.length (rowF fBlob B),.own 3 E.length (rowF fEntry E)],rAnsM b (.v .nil) (.v x),.c (.v (.int .i64 0))] := by
 have hc := CheckCache_f isDigest_f c hb
 have hO := own_f c hl he hr
 rw [hk] at hc
 have d0 : decide ((0 : Int) = 0) = true := rfl
 replace hb := hide hb
 replace hr := hide hr
 clear hk
 obtain ⟨room,lease,bl,en⟩ := c
 obtain ⟨kind,at_,dg,ds,key,size⟩ := e
 dsimp only [DoF,rAnsM,rcS] at hD
 refine FCall.of_ax low_cache_Do ?_
 dsimp only [jm,ji,jf,jl,jL,jn,je,jx,jT,jC,jB,jq,jt,ju,jA,km,kf,kl,kn,kx,l_cache_Do,aEv,aCache] at hc hO ⊢
 refine zs ?_
 repeat'(first|(simp -implicitDefEqProofs only [*,addFp_wr,zr,seval,reduceIte,reduceCtorEq])|(apply zk<;>intro hc)|(refine zp ?_)|(refine zd ?_)|(refine cP (hc) ?_)|(refine cD (hc) ?_)|(refine cF (hc) ?_)|(refine cO (hc) ?_)|(refine cP (hO) ?_)|(refine cD (hO) ?_)|(refine cF (hO) ?_)|(refine cO (hO) ?_)|fail)
 refine gP hD 2 1 [.f (.int .i64 room),.f (.int .i64 lease),.sl 18 1 5 0 bl.length,.sl 1018 1 3 0 en.length] [] [aEv (kind,at_,dg,ds,key,size)] ?_
 clear hD
 repeat'(first|(simp -implicitDefEqProofs only [*,addFp_wr,zr,seval,reduceIte,reduceCtorEq])|(apply zk<;>intro hc)|(refine zp ?_)|(refine zd ?_)|fail)
 exact ⟨[.agg [.f (.int .i64 room),.f (.int .i64 lease),.sl 21 1 5 0 B.length,.sl 1021 1 3 0 E.length],.agg [.f (.bool b),.f .nil,.f x],.f (.int .i64 0)],rfl,⟨⟨rfl,rfl,.inr ⟨_,_,rfl,rfl,lenB rfl⟩,.inr ⟨_,_,rfl,rfl,lenE rfl⟩,rfl⟩,⟨rfl,rfl,rfl,rfl⟩,rfl,rfl⟩,by simp [idsS,idsC]⟩
set_option maxHeartbeats 4000000 in
theorem Do_mis (c : Cache) (e : Ev) (hb : CBound c) (hk : ckCache c = 0) (hl : c.2.2.1.length ≤ 1000000) (he : c.2.2.2.length ≤ 1000000) (hr : ∀ x ∈ c.2.2.2,x.2.1.length ≤ 1000000) {B : List Blob} {E : List Entry} {b : Bool} {l : List ByteArray}
  (hD : DoF c.1 c.2.1 c.2.2.1 c.2.2.2 e (B,E,b,rcS l,.v .nil,0)) : FRet Tryz.prog 5 [aCache c,aEv e] [.agg [.v (.int .i64 c.1),.v (.int .i64 c.2.1),.own 5 B.length (rowF fBlob B),.own 3 E.length (rowF fEntry E)],rAnsM b (rcS l) (.v .nil),.c (.v (.int .i64 0))] := by
 have hc := CheckCache_f isDigest_f c hb
 have hO := own_f c hl he hr
 rw [hk] at hc
 have d0 : decide ((0 : Int) = 0) = true := rfl
 replace hb := hide hb
 replace hr := hide hr
 clear hk
 obtain ⟨room,lease,bl,en⟩ := c
 obtain ⟨kind,at_,dg,ds,key,size⟩ := e
 dsimp only [DoF,rAnsM,rcS] at hD
 refine FCall.of_ax low_cache_Do ?_
 dsimp only [jm,ji,jf,jl,jL,jn,je,jx,jT,jC,jB,jq,jt,ju,jA,km,kf,kl,kn,kx,l_cache_Do,aEv,aCache] at hc hO ⊢
 refine zs ?_
 repeat'(first|(simp -implicitDefEqProofs only [*,addFp_wr,zr,seval,reduceIte,reduceCtorEq])|(apply zk<;>intro hc)|(refine zp ?_)|(refine zd ?_)|(refine cP (hc) ?_)|(refine cD (hc) ?_)|(refine cF (hc) ?_)|(refine cO (hc) ?_)|(refine cP (hO) ?_)|(refine cD (hO) ?_)|(refine cF (hO) ?_)|(refine cO (hO) ?_)|fail)
 refine gP hD 2 1 [.f (.int .i64 room),.f (.int .i64 lease),.sl 18 1 5 0 bl.length,.sl 1018 1 3 0 en.length] [] [aEv (kind,at_,dg,ds,key,size)] ?_
 clear hD
 repeat'(first|(simp -implicitDefEqProofs only [*,addFp_wr,zr,seval,reduceIte,reduceCtorEq])|(apply zk<;>intro hc)|(refine zp ?_)|(refine zd ?_)|fail)
 exact ⟨[.agg [.f (.int .i64 room),.f (.int .i64 lease),.sl 21 1 5 0 B.length,.sl 1021 1 3 0 E.length],.agg [.f (.bool b),.sl 2021 1 1 0 l.length,.f .nil],.f (.int .i64 0)],rfl,⟨⟨rfl,rfl,.inr ⟨_,_,rfl,rfl,lenB rfl⟩,.inr ⟨_,_,rfl,rfl,lenE rfl⟩,rfl⟩,⟨rfl,.inr ⟨_,_,rfl,rfl,by rw [List.length_map,Nat.mul_one];exact Nat.le_refl _⟩,rfl,rfl⟩,rfl,rfl⟩,by simp [idsS,idsC]⟩
set_option maxHeartbeats 4000000 in
theorem Do_gon (c : Cache) (e : Ev) (hb : CBound c) (hk : ckCache c = 0) (hl : c.2.2.1.length ≤ 1000000) (he : c.2.2.2.length ≤ 1000000) (hr : ∀ x ∈ c.2.2.2,x.2.1.length ≤ 1000000) {B : List Blob} {E : List Entry} {b : Bool} {l : List ByteArray}
  (hD : DoF c.1 c.2.1 c.2.2.1 c.2.2.2 e (B,E,b,.v .nil,rcS l,0)) : FRet Tryz.prog 5 [aCache c,aEv e] [.agg [.v (.int .i64 c.1),.v (.int .i64 c.2.1),.own 5 B.length (rowF fBlob B),.own 3 E.length (rowF fEntry E)],rAnsM b (.v .nil) (rcS l),.c (.v (.int .i64 0))] := by
 have hc := CheckCache_f isDigest_f c hb
 have hO := own_f c hl he hr
 rw [hk] at hc
 have d0 : decide ((0 : Int) = 0) = true := rfl
 replace hb := hide hb
 replace hr := hide hr
 clear hk
 obtain ⟨room,lease,bl,en⟩ := c
 obtain ⟨kind,at_,dg,ds,key,size⟩ := e
 dsimp only [DoF,rAnsM,rcS] at hD
 refine FCall.of_ax low_cache_Do ?_
 dsimp only [jm,ji,jf,jl,jL,jn,je,jx,jT,jC,jB,jq,jt,ju,jA,km,kf,kl,kn,kx,l_cache_Do,aEv,aCache] at hc hO ⊢
 refine zs ?_
 repeat'(first|(simp -implicitDefEqProofs only [*,addFp_wr,zr,seval,reduceIte,reduceCtorEq])|(apply zk<;>intro hc)|(refine zp ?_)|(refine zd ?_)|(refine cP (hc) ?_)|(refine cD (hc) ?_)|(refine cF (hc) ?_)|(refine cO (hc) ?_)|(refine cP (hO) ?_)|(refine cD (hO) ?_)|(refine cF (hO) ?_)|(refine cO (hO) ?_)|fail)
 refine gP hD 2 1 [.f (.int .i64 room),.f (.int .i64 lease),.sl 18 1 5 0 bl.length,.sl 1018 1 3 0 en.length] [] [aEv (kind,at_,dg,ds,key,size)] ?_
 clear hD
 repeat'(first|(simp -implicitDefEqProofs only [*,addFp_wr,zr,seval,reduceIte,reduceCtorEq])|(apply zk<;>intro hc)|(refine zp ?_)|(refine zd ?_)|fail)
 exact ⟨[.agg [.f (.int .i64 room),.f (.int .i64 lease),.sl 21 1 5 0 B.length,.sl 1021 1 3 0 E.length],.agg [.f (.bool b),.f .nil,.sl 2021 1 1 0 l.length],.f (.int .i64 0)],rfl,⟨⟨rfl,rfl,.inr ⟨_,_,rfl,rfl,lenB rfl⟩,.inr ⟨_,_,rfl,rfl,lenE rfl⟩,rfl⟩,⟨rfl,rfl,.inr ⟨_,_,rfl,rfl,by rw [List.length_map,Nat.mul_one];exact Nat.le_refl _⟩,rfl⟩,rfl,rfl⟩,by simp [idsS,idsC]⟩
end Go.Proofs.YtfajjcmagngfiaaGreatDoor
