/-
  cache.Hits, cache.Peak for all events; the law FollowsMatchSpec. No statement of the seat is proved here; no conditions.
-/
import Derived.Test.YtfajjcmagngfiaaGreatDoorRg
import Derived.Test.YtfajjcmagngfiaaGreatDoorOpenS
import Derived.Test.YtfajjcmagngfiaaGreatDoorCards
import Derived.Test.YtfajjcmagngfiaaGreatDoorTie
import Derived.OpenShut
import Derived.Deep.DeepHandedRow
import Derived.Lib.LaidTab
namespace Go.Proofs.YtfajjcmagngfiaaGreatDoor
open Go.RowKit Go.Shelf
set_option linter.unusedVariables false
set_option linter.unusedSimpArgs false
set_option maxRecDepth 100000

def peakV (c:Cache) (l:List Ev):Int:=if folErr c l=0 then pk (sumSz c.2.2.1) c l else 0
set_option maxHeartbeats 4000000 in
theorem Peak_f (c:Cache) (l:List Ev) (hb:CBound c) (hd:∀ e∈l,(e.2.2.2.1.length:Int)≤9223372036854775807):FRet Tryz.prog 14 [aCache c,.f (frEvs l)] [.c (.v (.int .i64 (peakV c l))),.c (.v (.int .i64 (folErr c l)))]:=by
 have hU:=used_f c hb.1
 by_cases h:folErr c l=0
 ·obtain⟨h1,h2,h3⟩:=folErr_zero h
  have hR:=right_iff.1 h1
  rw[(cok_of h1).wsum]at hU
  have k1:=peak_run c l hb h1 h2 hd (sumSz c.2.2.1)
  rw[folRs,if_pos h3]at k1
  have hp:peakV c l=pk (sumSz c.2.2.1) c l:=if_pos h
  rw[hp,h]
  have d0:decide ((0:Int)=0)=true:=rfl
  generalize pk (sumSz c.2.2.1) c l=m at*
  generalize sumSz c.2.2.1=n at*
  generalize fol c l=r at*
  obtain⟨⟨xr,xl,B,E⟩,A,ft⟩:=r
  clear h h1 h2 h3 hb hd hp hR
  obtain⟨room,lease,bl,en⟩:=c
  refine FCall.of_ax low_cache_Peak ?_
  dsimp only[jm,ji,jf,jl,jL,jn,je,jx,jT,jC,jB,jq,jt,ju,jA,km,kf,kl,kn,kx,l_cache_Peak,aCache]at k1 hU ⊢
  refine zs ?_
  repeat'(first|(simp -implicitDefEqProofs only[*,addFp_wr,zr,seval,reduceIte,reduceCtorEq])|(apply zk<;>intro hc)|(refine zp ?_)|(refine zd ?_)|(refine cP (hU) ?_)|(refine cD (hU) ?_)|(refine cF (hU) ?_)|fail)
  refine callX1 (m:=300) rfl k1 6 1 [.f (.int .i64 n)] (.inl ⟨rfl,args_fol⟩) (by rfl) (by simp) ⟨rfl,rfl⟩ (by simp [idsC]) (by simp [idsC]) (by repeat (first|exact free_0|exact free_mk (by simp)|refine free_upd rfl ?_|refine free_kill ?_)) ?_
  clear k1
  repeat'(first|(simp -implicitDefEqProofs only[*,addFp_wr,zr,seval,reduceIte,reduceCtorEq])|(apply zk<;>intro hc)|(refine zp ?_)|(refine zd ?_)|fail)
  exact ret_vv
 ·have key:∃ m:Int,FRetX1 Tryz.prog 24 [aCache c,.f (frEvs l),.clo (.func 29) [.ptr 100001 1 0]] [.v (.int .i64 (wsum c.2.2.1))] [.v (.int .i64 m)] [zRs2,.c (.v (.int .i64 (folErr c l)))]:=by
   rcases folErr_cases c l with⟨h1,h2⟩|⟨h1,h2,h3⟩|⟨h1,h2,h3⟩
   ·rw[h2];exact⟨_,peak_bad0 c l hb h1 _⟩
   ·rw[h3];exact⟨_,peak_bad1 c l hb h1 h2 _⟩
   ·have:=peak_run c l hb h1 h2 hd (wsum c.2.2.1)
    rw[folRs,if_neg (by rw[← h3];exact h),← h3]at this
    exact⟨_,this⟩
  obtain⟨m,k1⟩:=key
  have hp:peakV c l=0:=if_neg h
  rw[hp]
  generalize folErr c l=q at*
  have d0:decide (q=0)=false:=dcF h
  replace h:=hide h
  replace hb:=hide hb
  replace hd:=hide hd
  generalize wsum c.2.2.1=n at*
  clear hp
  obtain⟨room,lease,bl,en⟩:=c
  refine FCall.of_ax low_cache_Peak ?_
  dsimp only[jm,ji,jf,jl,jL,jn,je,jx,jT,jC,jB,jq,jt,ju,jA,km,kf,kl,kn,kx,l_cache_Peak,aCache,zRs2]at k1 hU ⊢
  refine zs ?_
  repeat'(first|(simp -implicitDefEqProofs only[*,addFp_wr,zr,seval,reduceIte,reduceCtorEq])|(apply zk<;>intro hc)|(refine zp ?_)|(refine zd ?_)|(refine cP (hU) ?_)|(refine cD (hU) ?_)|(refine cF (hU) ?_)|fail)
  refine callX1 (m:=300) rfl k1 6 1 [.f (.int .i64 n)] (.inl ⟨rfl,args_fol⟩) (by rfl) (by simp) ⟨rfl,rfl⟩ (by simp [idsC]) (by simp [idsC]) (by repeat (first|exact free_0|exact free_mk (by simp)|refine free_upd rfl ?_|refine free_kill ?_)) ?_
  clear k1
  repeat'(first|(simp -implicitDefEqProofs only[*,addFp_wr,zr,seval,reduceIte,reduceCtorEq])|(apply zk<;>intro hc)|(refine zp ?_)|(refine zd ?_)|fail)
  exact ret_vv
theorem args_fol2 {i1 v1 i2 v2 g:Nat}{cs1 cs2:List AV}{p1 p1' p2 p2':List RC}{c1 c2 c3 c4 x:FV} : ArgsOk [⟨i1,v1,cs1,p1,p1'⟩,⟨i2,v2,cs2,p2,p2'⟩] [.agg [.f c1,.f c2,.f c3,.f c4],.f x,.clo (.func g) [.ptr i1 v1 0,.ptr i2 v2 0]] [.agg [.f c1,.f c2,.f c3,.f c4],.f x,.clo (.func g) [.ptr 100001 1 0,.ptr 100002 1 0]]:=
 ⟨.inl (.inr (.inl ⟨rfl,rfl⟩)),.inl (.inr (.inl ⟨rfl,rfl⟩)),.inr (.inr ⟨_,_,_,rfl,rfl,.inr (.inr ⟨0,_,rfl,rfl,rfl⟩),.inr (.inr ⟨1,_,rfl,rfl,rfl⟩),trivial⟩),trivial⟩
set_option maxHeartbeats 4000000 in
theorem Hits_f (c:Cache) (l:List Ev) (hb:CBound c) (hd:∀ e∈l,(e.2.2.2.1.length:Int)≤9223372036854775807):FRet Tryz.prog 12 [aCache c,.f (frEvs l)] [.c (.v (.int .i64 (if folErr c l=0 then(ht 0 0 c l).2 else 0))),.c (.v (.int .i64 (if folErr c l=0 then(ht 0 0 c l).1 else 0))),.c (.v (.int .i64 (folErr c l)))]:=by
 by_cases h:folErr c l=0
 ·obtain⟨h1,h2,h3⟩:=folErr_zero h
  have k1:=hit_run c l hb h1 h2 hd
  rw[folRs,if_pos h3]at k1
  rw[if_pos h,if_pos h,h]
  have d0:decide ((0:Int)=0)=true:=rfl
  generalize ht 0 0 c l=hh at*
  generalize fol c l=r at*
  obtain⟨⟨xr,xl,B,E⟩,A,ft⟩:=r
  obtain⟨M,D⟩:=hh
  clear h h1 h2 h3 hb hd
  obtain⟨room,lease,bl,en⟩:=c
  refine FCall.of_ax low_cache_Hits ?_
  dsimp only[jm,ji,jf,jl,jL,jn,je,jx,jT,jC,jB,jq,jt,ju,jA,km,kf,kl,kn,kx,l_cache_Hits,aCache]at k1 ⊢
  refine zs ?_
  repeat'(first|(simp -implicitDefEqProofs only[*,addFp_wr,zr,seval,reduceIte,reduceCtorEq])|(apply zk<;>intro hc)|(refine zp ?_)|(refine zd ?_)|fail)
  refine callX2 (m:=300) rfl k1 8 1 [.f (.int .i64 0)] 7 1 [.f (.int .i64 0)] (.inl ⟨rfl,args_fol2⟩) rfl (by simp) ⟨rfl,rfl⟩ rfl (by simp) ⟨rfl,rfl⟩ (by simp [idsC]) (by decide) (by simp [idsC]) (by simp [idsC]) (by repeat (first|exact free_0|exact free_mk (by simp)|refine free_upd rfl ?_|refine free_kill ?_)) ?_
  clear k1
  repeat'(first|(simp -implicitDefEqProofs only[*,addFp_wr,wrL_3,zr,seval,reduceIte,reduceCtorEq])|(apply zk<;>intro hc)|(refine zp ?_)|(refine zd ?_)|fail)
  exact⟨[_,_,_],rfl,⟨rfl,rfl,rfl,rfl⟩,by simp [idsS]⟩
 ·have key:∃ m d:Int,FRetX2 Tryz.prog 24 [aCache c,.f (frEvs l),.clo (.func 27) [.ptr 100001 1 0,.ptr 100002 1 0]] [.v (.int .i64 0)] [.v (.int .i64 0)] [.v (.int .i64 m)] [.v (.int .i64 d)] [zRs2,.c (.v (.int .i64 (folErr c l)))]:=by
   rcases folErr_cases c l with⟨h1,h2⟩|⟨h1,h2,h3⟩|⟨h1,h2,h3⟩
   ·rw[h2];exact⟨_,_,hit_bad0 c l hb h1⟩
   ·rw[h3];exact⟨_,_,hit_bad1 c l hb h1 h2⟩
   ·have:=hit_run c l hb h1 h2 hd
    rw[folRs,if_neg (by rw[← h3];exact h),← h3]at this
    exact⟨_,_,this⟩
  obtain⟨M,D,k1⟩:=key
  rw[if_neg h,if_neg h]
  have d0:decide (folErr c l=0)=false:=dcF h
  generalize folErr c l=q at*
  replace h:=hide h
  clear hb hd
  obtain⟨room,lease,bl,en⟩:=c
  refine FCall.of_ax low_cache_Hits ?_
  dsimp only[jm,ji,jf,jl,jL,jn,je,jx,jT,jC,jB,jq,jt,ju,jA,km,kf,kl,kn,kx,l_cache_Hits,aCache,zRs2]at k1 ⊢
  refine zs ?_
  repeat'(first|(simp -implicitDefEqProofs only[*,addFp_wr,zr,seval,reduceIte,reduceCtorEq])|(apply zk<;>intro hc)|(refine zp ?_)|(refine zd ?_)|fail)
  refine callX2 (m:=300) rfl k1 8 1 [.f (.int .i64 0)] 7 1 [.f (.int .i64 0)] (.inl ⟨rfl,args_fol2⟩) rfl (by simp) ⟨rfl,rfl⟩ rfl (by simp) ⟨rfl,rfl⟩ (by simp [idsC]) (by decide) (by simp [idsC]) (by simp [idsC]) (by repeat (first|exact free_0|exact free_mk (by simp)|refine free_upd rfl ?_|refine free_kill ?_)) ?_
  clear k1
  repeat'(first|(simp -implicitDefEqProofs only[*,addFp_wr,wrL_3,zr,seval,reduceIte,reduceCtorEq])|(apply zk<;>intro hc)|(refine zp ?_)|(refine zd ?_)|fail)
  exact⟨[_,_,_],rfl,⟨rfl,rfl,rfl,rfl⟩,by simp [idsS]⟩
theorem same_all (c:Cache) (l:List Ev) (h:folErr c l=0) (hd:∀ e∈l,(e.2.2.2.1.length:Int)≤9223372036854775807):FRet Tryz.prog 8 [.f (frAns (fol c l).2.1),.f (frAns (fol c l).2.1)] [.c (.v (.bool true))]:=by
 obtain⟨h1,h2,h3⟩:=folErr_zero h
 have hl:=fol_len h3
 have hA:=fol_ok (l:=l) h1 hd
 exact SameAnswers_f _ _ (by omega) rfl fun k x y h1 h2=>by
  obtain rfl:=Option.some.inj (h1.symm.trans h2)
  exact sameA_of (hA x (List.mem_of_getElem? h1))
set_option maxHeartbeats 8000000 in
theorem followsMatch_law (c:Cache) (l:List Ev) (hb:SBound c) (hd:∀ e∈l,EvB e):FRet Tryz.prog 4 [aCache c,.f (frEvs l)] [.c (.v (.bool true))]:=by
 have hd1:∀ e∈l,(e.2.2.2.1.length:Int)≤9223372036854775807:=fun e he=>(hd e he).1
 have k3:=Hits_f c l hb.1 hd1
 have k4:=HitsR_f c l hb hd
 have k5:=Peak_f c l hb.1 hd1
 have k6:=PeakR_f c l hb hd
 unfold peakV at k5
 generalize (if folErr c l=0 then pk (sumSz c.2.2.1) c l else 0)=m at*
 generalize (if folErr c l=0 then(ht 0 0 c l).2 else 0)=m1 at*
 generalize (if folErr c l=0 then(ht 0 0 c l).1 else 0)=m2 at*
 have e1:decide (m=m)=true:=by simp
 have e2:decide (m1=m1)=true:=by simp
 have e3:decide (m2=m2)=true:=by simp
 by_cases h:folErr c l=0
 ·have k1:=Follow_yes c l hb.1 hd1 h
  have k2:=FollowR_yes c l hb hd h
  have k8:=same_all c l h hd1
  obtain⟨h1,h2,h3⟩:=folErr_zero h
  have k7:=Same_f (fol c l).1 (fol c l).1 (sb_right (right_iff.1 (fol_right h1)))
  rw[show decide ((fol c l).1=(fol c l).1)=true by simp]at k7
  rw[h]at k3 k4 k5 k6
  have dz:decide ((0:Int)=0)=true:=rfl
  generalize fol c l=r at*
  obtain⟨⟨xr,xl,B,E⟩,A,ft⟩:=r
  clear h h1 h2 h3 hb hd hd1
  obtain⟨room,lease,bl,en⟩:=c
  refine FCall.of_ax low_law7_CacheFollowsMatchSpec ?_
  dsimp only[jm,ji,jf,jl,jL,jn,je,jx,jT,jC,jB,jq,jt,ju,jA,km,kf,kl,kn,kx,l_law7_CacheFollowsMatchSpec,aCache,rcCache]at k1 k2 k3 k4 k5 k6 k7 k8 ⊢
  refine zs ?_
  replace k1:=hide k1
  replace k2:=hide k2
  replace k3:=hide k3
  replace k4:=hide k4
  replace k5:=hide k5
  replace k6:=hide k6
  replace k7:=hide k7
  replace k8:=hide k8
  repeat'(first|(simp -implicitDefEqProofs only[*,addFp_wr,zr,seval,reduceIte,reduceCtorEq])|(apply zk<;>intro hc)|(refine zp ?_)|(refine zd ?_)|(refine cP (k1.out) ?_)|(refine cD (k1.out) ?_)|(refine cF (k1.out) ?_)|(refine cP (k2.out) ?_)|(refine cD (k2.out) ?_)|(refine cF (k2.out) ?_)|(refine cP (k7.out) ?_)|(refine cD (k7.out) ?_)|(refine cF (k7.out) ?_)|(refine cP (k8.out) ?_)|(refine cD (k8.out) ?_)|(refine cF (k8.out) ?_)|(refine cP (k3.out) ?_)|(refine cD (k3.out) ?_)|(refine cF (k3.out) ?_)|(refine cP (k4.out) ?_)|(refine cD (k4.out) ?_)|(refine cF (k4.out) ?_)|(refine cP (k5.out) ?_)|(refine cD (k5.out) ?_)|(refine cF (k5.out) ?_)|(refine cP (k6.out) ?_)|(refine cD (k6.out) ?_)|(refine cF (k6.out) ?_)|(refine cP (awake_f) ?_)|(refine cD (awake_f) ?_)|(refine cF (awake_f) ?_)|fail)
  exact ret_v
 ·have k1:=Follow_err c l hb.1 hd1 h
  have k2:=FollowR_no c l hb hd h
  have k7:=Same_f emptyC emptyC sbound_0
  rw[show decide (emptyC=emptyC)=true by simp]at k7
  have k8:=SameAnswers_f [] [] (by simp) rfl fun k x y h1 h2=>by simp at h1
  generalize folErr c l=q at*
  have dq:decide (q=q)=true:=by simp
  replace h:=hide h
  clear hb hd hd1
  obtain⟨room,lease,bl,en⟩:=c
  refine FCall.of_ax low_law7_CacheFollowsMatchSpec ?_
  dsimp only[jm,ji,jf,jl,jL,jn,je,jx,jT,jC,jB,jq,jt,ju,jA,km,kf,kl,kn,kx,l_law7_CacheFollowsMatchSpec,aCache,zRs2,emptyC,frAns,List.map_nil]at k1 k2 k3 k4 k5 k6 k7 k8 ⊢
  refine zs ?_
  replace k1:=hide k1
  replace k2:=hide k2
  replace k3:=hide k3
  replace k4:=hide k4
  replace k5:=hide k5
  replace k6:=hide k6
  replace k7:=hide k7
  replace k8:=hide k8
  repeat'(first|(simp -implicitDefEqProofs only[*,addFp_wr,zr,seval,reduceIte,reduceCtorEq])|(apply zk<;>intro hc)|(refine zp ?_)|(refine zd ?_)|(refine cP (k1.out) ?_)|(refine cD (k1.out) ?_)|(refine cF (k1.out) ?_)|(refine cP (k2.out) ?_)|(refine cD (k2.out) ?_)|(refine cF (k2.out) ?_)|(refine cP (k7.out) ?_)|(refine cD (k7.out) ?_)|(refine cF (k7.out) ?_)|(refine cP (k8.out) ?_)|(refine cD (k8.out) ?_)|(refine cF (k8.out) ?_)|(refine cP (k3.out) ?_)|(refine cD (k3.out) ?_)|(refine cF (k3.out) ?_)|(refine cP (k4.out) ?_)|(refine cD (k4.out) ?_)|(refine cF (k4.out) ?_)|(refine cP (k5.out) ?_)|(refine cD (k5.out) ?_)|(refine cF (k5.out) ?_)|(refine cP (k6.out) ?_)|(refine cD (k6.out) ?_)|(refine cF (k6.out) ?_)|(refine cP (awake_f) ?_)|(refine cD (awake_f) ?_)|(refine cF (awake_f) ?_)|fail)
  exact ret_v
theorem fz_evs:Fz (rSl 6 80 rEv) 1 (fun l=>[frEvs l]):=fz_sl fz_ev
theorem evs_b {w:World}{B:Nat}{l:List Ev}{cs:List Value}(h:rSl 6 80 rEv w B l cs):∀ e∈l,EvB e:=fun e he=>by
 obtain⟨vs,h2⟩:=h.all.2 e he
 exact ev_b h2
theorem followsMatch_any (cs:List Value) (c:Cache) (A:Option Addr) (n k:Nat) (l:List Ev) (W:World) (h:rCache W W.heap.size c cs) (hr:rSl 6 80 rEv W W.heap.size l [.slice A n k]):Calls Tryz.prog 4 #[.agg cs.toArray,.slice A n k] W fun e w'=>e=.returned (.bool true)∧Below W.heap.size W w':=
 (followsMatch_law c l (cache_bound h) (evs_b hr)).callsA rfl (args2q (fz_cache.agg len_cache h) (.f (fz_evs.one (a:=frEvs) hr)))
end Go.Proofs.YtfajjcmagngfiaaGreatDoor
namespace Go.Proofs.YtfajjcmagngfiaaGreatDoor
open Go.RowKit
theorem own:ownKnob Tryz.prog.godebug=none:=by kernel_rfl
theorem laidOut:laidOutB Tryz.prog=true:=by kernel_rfl
end Go.Proofs.YtfajjcmagngfiaaGreatDoor
namespace Go.Proofs.YtfajjcmagngfiaaGreatDoor
open Go.ChangeShapes Go.WideShapes Go.ChangeAt Go.RowKit

def setCs (cs:Array Value):Obj→Obj
 | .cells _ t frozen=> .cells cs t frozen
 | o=>o
def firstCs:Array Value:=(Pinned.utf8FirstZ.map fun (x:Nat)=>Value.int .u8 (x:Int)).toArray
def acceptCs:Array Value:=([128,191,160,191,128,159,144,191,128,143,0,0,0,0,0,0,0,0,0,0,0,0,0,0,0,0,0,0,0,0,0,0].map fun (x:Nat)=>Value.int .u8 (x:Int)).toArray
noncomputable def laidWorld (os:Os):World:=
 { World.holding Tryz.prog os ⟨#[],#[],[]⟩with heap:=((World.holding Tryz.prog os ⟨#[],#[],[]⟩).heap.modify 1 (setCs firstCs)).modify 2 (setCs acceptCs) }
end Go.Proofs.YtfajjcmagngfiaaGreatDoor
