/-
  The reference's Do; the law DoesMatchSpec. No statement of the seat is proved here; no conditions.
-/
import Derived.Test.YtfajjcmagngfiaaGreatDoorSam
import Derived.Test.YtfajjcmagngfiaaGreatDoorCaL
import Derived.Test.YtfajjcmagngfiaaGreatDoorOpenS
import Derived.Test.YtfajjcmagngfiaaGreatDoorCards
import Derived.Test.YtfajjcmagngfiaaGreatDoorTie
import Derived.OpenShut
import Derived.Deep.DeepHandedRow
import Derived.Lib.LaidTab
namespace Go.Proofs.YtfajjcmagngfiaaGreatDoor
open Go.RowKit Go.Shelf
set_option linter.unusedVariables false
set_option linter.unusedSimpArgs false
set_option maxRecDepth 100000

set_option maxHeartbeats 4000000 in
theorem DoR_no (c : Cache) (e : Ev) (hb : SBound c) (hd : EvB e) (h : doErr c e ≠ 0) : FRet Tryz.prog 6 [aCache c,aEv e] [zC,rAns false .nil .nil,.c (.v (.int .i64 (doErr c e)))] := by
 have hca := CheckCacheR_f c hb
 by_cases h0 : ckCache c = 0
 case neg =>
  have he : doErr c e = ckCache c := by rw [doErr,if_neg h0]
  rw [he]
  have d0 : decide (ckCache c = 0) = false := dcF h0
  generalize ckCache c = q at *
  replace h0 := hide h0
  replace he := hide he
  clear hb hd h
  obtain ⟨room,lease,bl,en⟩ := c
  obtain ⟨kind,at_,dg,ds,key,size⟩ := e
  refine FCall.of_ax low_ref7_Do ?_
  dsimp only [jm,ji,jf,jl,jL,jn,je,jx,jT,jC,jB,jq,jt,ju,jA,km,kf,kl,kn,kx,l_ref7_Do,aCache,aEv,zC,rAns] at hca ⊢
  refine zs ?_
  repeat'(first|(simp -implicitDefEqProofs only [*,addFp_wr,zr,seval,reduceIte,reduceCtorEq])|(apply zk<;>intro hc)|(refine zp ?_)|(refine zd ?_)|(refine cP (hca) ?_)|(refine cD (hca) ?_)|(refine cF (hca) ?_)|(refine cO (hca) ?_)|fail)
  exact ⟨[.agg [.f (.int .i64 0),.f (.int .i64 0),.f .nil,.f .nil],.agg [.f (.bool false),.f .nil,.f .nil],.f (.int .i64 q)],rfl,⟨⟨rfl,rfl,rfl,rfl,rfl⟩,⟨rfl,rfl,rfl,rfl⟩,rfl,rfl⟩,by simp [idsS,idsC]⟩
 have hR := right_iff.1 h0
 have hs := doRZ hR hd
 have hC := copied_f c (by have := hR.blen;omega) (by have := hR.elen;omega) (fun x hx => by have := ckDigs_len (entOk_iff.1 (hR.eok x hx)).2.1;omega)
 have he : doErr c e = fltOf c e := flt_err h0
 rw [he] at h ⊢
 rw [h0] at hca
 have dz : decide ((0 : Int) = 0) = true := rfl
 have d0 : decide (fltOf c e = 0) = false := dcF h
 unfold StepF ansRs at hs
 generalize doC c e = c2 at *
 generalize fltOf c e = ft at *
 generalize ansOf c e = a at *
 obtain ⟨c2r,c2l,B,E⟩ := c2
 obtain ⟨b,m,g⟩ := a
 obtain ⟨room,lease,bl,en⟩ := c
 obtain ⟨kind,at_,dg,ds,key,size⟩ := e
 dsimp only at hs
 replace hs := hide hs
 replace h := hide h
 replace he := hide he
 replace hC := hide hC
 clear hR h0 hb hd
 refine FCall.of_ax low_ref7_Do ?_
 dsimp only [jm,ji,jf,jl,jL,jn,je,jx,jT,jC,jB,jq,jt,ju,jA,km,kf,kl,kn,kx,l_ref7_Do,aCache,aEv,zC,rAns] at hca hs hC ⊢
 refine zs ?_
 repeat'(first|(simp -implicitDefEqProofs only [*,addFp_wr,wrL_3,zr,seval,reduceIte,reduceCtorEq])|(apply zk<;>intro hc)|(refine zp ?_)|(refine zd ?_)|(refine cP (hca) ?_)|(refine cD (hca) ?_)|(refine cF (hca) ?_)|(refine cO (hca) ?_)|fail)
 refine callN rfl hC.out rfl (LeL.refl _) rfl (by repeat (first|exact free_0 | exact free_mk (by simp) | refine free_upd rfl ?_ | refine free_kill ?_)) ?_
 clear hC
 repeat'(first|(simp -implicitDefEqProofs only [*,addFp_wr,wrL_3,zr,seval,reduceIte,reduceCtorEq])|(apply zk<;>intro hc)|(refine zp ?_)|(refine zd ?_)|fail)
 refine gP hs.out 2019 1 [.f (.int .i64 room),.f (.int .i64 lease),.sl 19 1 5 0 bl.length,.sl 1019 1 3 0 en.length] [] [.agg [.f (.int .i64 kind),.f (.int .i64 at_),.f (.str dg),.f (frStrs ds),.f (.str key),.f (.int .i64 size)]] ?_
 clear hs
 repeat'(first|(simp -implicitDefEqProofs only [*,addFp_wr,wrL_3,zr,seval,reduceIte,reduceCtorEq])|(apply zk<;>intro hc)|(refine zp ?_)|(refine zd ?_)|fail)
 exact ⟨[.agg [.f (.int .i64 0),.f (.int .i64 0),.f .nil,.f .nil],.agg [.f (.bool false),.f .nil,.f .nil],.f (.int .i64 ft)],rfl,⟨⟨rfl,rfl,rfl,rfl,rfl⟩,⟨rfl,rfl,rfl,rfl⟩,rfl,rfl⟩,by simp [idsS,idsC]⟩
set_option maxHeartbeats 4000000 in
theorem DoR_yes (c : Cache) (e : Ev) (hb : SBound c) (hd : EvB e) (h : doErr c e = 0) : FRet Tryz.prog 6 [aCache c,aEv e] [.agg (rcCache (doC c e)),ansRs c e,.c (.v (.int .i64 0))] := by
 have hca := CheckCacheR_f c hb
 have h0 : ckCache c = 0 := (doErr_right h).1
 have hR := right_iff.1 h0
 have hs := doRZ hR hd
 have hC := copied_f c (by have := hR.blen;omega) (by have := hR.elen;omega) (fun x hx => by have := ckDigs_len (entOk_iff.1 (hR.eok x hx)).2.1;omega)
 have he : doErr c e = fltOf c e := flt_err h0
 rw [he] at h
 rw [h] at hs
 rw [h0] at hca
 have dz : decide ((0 : Int) = 0) = true := rfl
 have e1 : (doC c e).1 = c.1 := rfl
 have e2 : (doC c e).2.1 = c.2.1 := rfl
 unfold StepF ansRs at hs
 unfold ansRs
 generalize doC c e = c2 at *
 generalize ansOf c e = a at *
 obtain ⟨c2r,c2l,B,E⟩ := c2
 obtain ⟨b,m,g⟩ := a
 dsimp only at e1 e2 hs ⊢
 subst e1 e2
 replace hs := hide hs
 replace h := hide h
 replace he := hide he
 replace hC := hide hC
 clear hR h0 hb hd
 have hown : FRet Tryz.prog 6 [aCache c,aEv e] [.agg [.v (.int .i64 c.1),.v (.int .i64 c.2.1),.own 5 B.length (rowF fBlob B),.own 3 E.length (rowF fEntry E)],rAns b m g,.c (.v (.int .i64 0))] := by
  obtain ⟨room,lease,bl,en⟩ := c
  obtain ⟨kind,at_,dg,ds,key,size⟩ := e
  refine FCall.of_ax low_ref7_Do ?_
  dsimp only [jm,ji,jf,jl,jL,jn,je,jx,jT,jC,jB,jq,jt,ju,jA,km,kf,kl,kn,kx,l_ref7_Do,aCache,aEv,rAns] at hca hs hC ⊢
  refine zs ?_
  repeat'(first|(simp -implicitDefEqProofs only [*,addFp_wr,wrL_3,zr,seval,reduceIte,reduceCtorEq])|(apply zk<;>intro hc)|(refine zp ?_)|(refine zd ?_)|(refine cP (hca) ?_)|(refine cD (hca) ?_)|(refine cF (hca) ?_)|(refine cO (hca) ?_)|fail)
  refine callN rfl hC.out rfl (LeL.refl _) rfl (by repeat (first|exact free_0 | exact free_mk (by simp) | refine free_upd rfl ?_ | refine free_kill ?_)) ?_
  clear hC
  repeat'(first|(simp -implicitDefEqProofs only [*,addFp_wr,wrL_3,zr,seval,reduceIte,reduceCtorEq])|(apply zk<;>intro hc)|(refine zp ?_)|(refine zd ?_)|fail)
  refine gP hs.out 2019 1 [.f (.int .i64 room),.f (.int .i64 lease),.sl 19 1 5 0 bl.length,.sl 1019 1 3 0 en.length] [] [.agg [.f (.int .i64 kind),.f (.int .i64 at_),.f (.str dg),.f (frStrs ds),.f (.str key),.f (.int .i64 size)]] ?_
  clear hs
  repeat'(first|(simp -implicitDefEqProofs only [*,addFp_wr,wrL_3,zr,seval,reduceIte,reduceCtorEq])|(apply zk<;>intro hc)|(refine zp ?_)|(refine zd ?_)|fail)
  exact ⟨[.agg [.f (.int .i64 room),.f (.int .i64 lease),.sl 23 1 5 0 B.length,.sl 1023 1 3 0 E.length],.agg [.f (.bool b),.f m,.f g],.f (.int .i64 0)],rfl,⟨⟨rfl,rfl,.inr ⟨23,1,rfl,rfl,lenB rfl⟩,.inr ⟨1023,1,rfl,rfl,lenE rfl⟩,rfl⟩,⟨rfl,rfl,rfl,rfl⟩,rfl,rfl⟩,by simp [idsS,idsC]⟩
 exact hown.frz2 ⟨⟨rfl,rfl,rcF_row0 (enc := fBlob) (fun _ => rfl),rcF_row0 (enc := fEntry) (fun _ => rfl),trivial⟩,⟨rfl,rfl,rfl,trivial⟩,rfl,trivial⟩
theorem isDig_size {d : ByteArray} (h : isDig d = true) : (d.size : Int) ≤ 9223372036854775807 := by
 unfold isDig at h
 simp only [Bool.and_eq_true,beq_iff_eq] at h
 omega
theorem sb_right {c : Cache} (h : CRight c) : SBound c := by
 refine ⟨sbound_of h,fun b hb => isDig_size (by have := h.bok b hb;unfold blobOk at this;rw [Bool.and_eq_true] at this;exact this.1),fun e he => ?_⟩
 obtain ⟨h1,h2,_⟩ := entOk_iff.1 (h.eok e he)
 refine ⟨isDig_size h1,fun d hd => ?_⟩
 unfold ckDigsM at h2
 split at h2
 ·cases h2
 ·obtain ⟨i,hi⟩ := List.mem_iff_getElem?.1 hd
  have h3 := fe_zero h2 i (List.getElem?_eq_some_iff.1 hi).1
  rw [digErr_of hi] at h3
  by_cases h4 : isDig d = true
  ·exact isDig_size h4
  ·rw [if_neg h4] at h3;cases h3
theorem same_one (a : Ans) (h : OkX a.2.1 ∧ OkX a.2.2) : FRet Tryz.prog 8 [.f (.fr 3 [fAns a]),.f (.fr 3 [fAns a])] [.c (.v (.bool true))] :=
 SameAnswers_f [a] [a] (by simp) rfl fun k x y h1 h2 => by
  obtain rfl := Option.some.inj (h1.symm.trans h2)
  obtain rfl := List.mem_singleton.1 (List.mem_of_getElem? h1)
  exact sameA_of h
theorem sbound_0 : SBound emptyC := by simp [SBound,CBound,emptyC]
set_option maxHeartbeats 8000000 in
theorem doesMatch_law (c : Cache) (e : Ev) (hb : SBound c) (hd : EvB e) : FRet Tryz.prog 3 [aCache c,aEv e] [.c (.v (.bool true))] := by
 by_cases h : doErr c e = 0
 ·have k1 := Do_yes c e hb.1 hd.1 h
  have k2 := DoR_yes c e hb hd h
  obtain ⟨h0,_⟩ := doErr_right h
  have hS := sb_right (right_iff.1 (doC_right (e := e) h0))
  have k3 := Same_f (doC c e) (doC c e) hS
  rw [show decide (doC c e = doC c e) = true by simp] at k3
  have k4 := same_one (ansOf c e) (ans_ok (right_iff.1 h0) hd.1)
  change FRet _ _ _ [_,rAns (ansOf c e).1 (ansOf c e).2.1 (ansOf c e).2.2,_] at k1
  unfold ansRs at k2
  generalize doC c e = c2 at *
  generalize ansOf c e = a at *
  obtain ⟨c2r,c2l,B,E⟩ := c2
  obtain ⟨b,m,g⟩ := a
  replace h := hide h
  have dz : decide ((0 : Int) = 0) = true := rfl
  clear hb hd h0 hS
  obtain ⟨room,lease,bl,en⟩ := c
  obtain ⟨kind,at_,dg,ds,key,size⟩ := e
  refine FCall.of_ax low_law7_CacheDoesMatchSpec ?_
  dsimp only [jm,ji,jf,jl,jL,jn,je,jx,jT,jC,jB,jq,jt,ju,jA,km,kf,kl,kn,kx,l_law7_CacheDoesMatchSpec,aCache,aEv,rAns,rcCache,fAns] at k1 k2 k3 k4 ⊢
  refine zs ?_
  replace k1 := hide k1
  replace k2 := hide k2
  replace k3 := hide k3
  replace k4 := hide k4
  repeat'(first|(simp -implicitDefEqProofs only [*,addFp_wr,zr,seval,reduceIte,reduceCtorEq])|(apply zk<;>intro hc)|(refine zp ?_)|(refine zd ?_)|(refine cP (k1.out) ?_)|(refine cD (k1.out) ?_)|(refine cF (k1.out) ?_)|(refine cO (k1.out) ?_)|(refine cP (k2.out) ?_)|(refine cD (k2.out) ?_)|(refine cF (k2.out) ?_)|(refine cO (k2.out) ?_)|(refine cP (k3.out) ?_)|(refine cD (k3.out) ?_)|(refine cF (k3.out) ?_)|(refine cO (k3.out) ?_)|fail)
  refine gG k4.out ⟨fz_so (so_row0 (enc := fAns) (l := [(b,m,g)]) (fun _ => rfl) rfl rfl rfl),fz_so (so_row0 (enc := fAns) (l := [(b,m,g)]) (fun _ => rfl) rfl rfl rfl),trivial⟩ ?_
  repeat'(first|(simp -implicitDefEqProofs only [*,addFp_wr,zr,seval,reduceIte,reduceCtorEq])|(apply zk<;>intro hc)|(refine zp ?_)|(refine zd ?_)|(refine cP (awake_f) ?_)|(refine cD (awake_f) ?_)|(refine cF (awake_f) ?_)|(refine cO (awake_f) ?_)|fail)
  exact ret_v
 ·have k1 := Do_no c e hb.1 hd.1 h
  have k2 := DoR_no c e hb hd h
  have k3 := Same_f emptyC emptyC sbound_0
  rw [show decide (emptyC = emptyC) = true by simp] at k3
  have k4 := same_one (false,.nil,.nil) ⟨okX_nil,okX_nil⟩
  generalize doErr c e = q at *
  have dq : decide (q = q) = true := by simp
  replace h := hide h
  clear hb hd
  obtain ⟨room,lease,bl,en⟩ := c
  obtain ⟨kind,at_,dg,ds,key,size⟩ := e
  refine FCall.of_ax low_law7_CacheDoesMatchSpec ?_
  dsimp only [jm,ji,jf,jl,jL,jn,je,jx,jT,jC,jB,jq,jt,ju,jA,km,kf,kl,kn,kx,l_law7_CacheDoesMatchSpec,aCache,aEv,rAns,zC,fAns,emptyC] at k1 k2 k3 k4 ⊢
  refine zs ?_
  replace k1 := hide k1
  replace k2 := hide k2
  replace k3 := hide k3
  replace k4 := hide k4
  repeat'(first|(simp -implicitDefEqProofs only [*,addFp_wr,zr,seval,reduceIte,reduceCtorEq])|(apply zk<;>intro hc)|(refine zp ?_)|(refine zd ?_)|(refine cP (k1.out) ?_)|(refine cD (k1.out) ?_)|(refine cF (k1.out) ?_)|(refine cO (k1.out) ?_)|(refine cP (k2.out) ?_)|(refine cD (k2.out) ?_)|(refine cF (k2.out) ?_)|(refine cO (k2.out) ?_)|(refine cP (k3.out) ?_)|(refine cD (k3.out) ?_)|(refine cF (k3.out) ?_)|(refine cO (k3.out) ?_)|fail)
  refine gG k4.out ⟨fz_so (so_row0 (enc := fAns) (l := [(false,.nil,.nil)]) (fun _ => rfl) rfl rfl rfl),fz_so (so_row0 (enc := fAns) (l := [(false,.nil,.nil)]) (fun _ => rfl) rfl rfl rfl),trivial⟩ ?_
  repeat'(first|(simp -implicitDefEqProofs only [*,addFp_wr,zr,seval,reduceIte,reduceCtorEq])|(apply zk<;>intro hc)|(refine zp ?_)|(refine zd ?_)|(refine cP (awake_f) ?_)|(refine cD (awake_f) ?_)|(refine cF (awake_f) ?_)|(refine cO (awake_f) ?_)|fail)
  exact ret_v
theorem args2q {G : Ghost} {Z : Nat → Prop} {w : World} {a b : AV} {u v : Value} (h1 : RepA G Z w a u) (h2 : RepA G Z w b v) : ∀ (j : Nat) (s : AV) (z : Value),[a,b][j]? = some s → (#[u,v] : Array Value)[j]? = some z → RepA G Z w s z := by
 intro j s z hy hz
 rcases j with _ | _ | j
 ·obtain rfl := Option.some.inj hy;simp at hz;subst hz;exact h1
 ·obtain rfl := Option.some.inj hy;simp at hz;subst hz;exact h2
 ·simp at hy
abbrev rEv : Rep Ev := rPair (rI .i64) (rPair (rI .i64) (rPair rStr (rPair (rSl 1 16 rStr) (rPair rStr (rI .i64)))))
theorem fz_ev : Fz rEv 6 fEv := fz_pair fz_int len_i (fz_pair fz_int len_i (fz_pair fz_str len_s (fz_pair fz_strs len_sl (fz_pair fz_str len_s fz_int))))
theorem len_ev : ∀ w B x cs,rEv w B x cs → cs.length = 6 := len_pair len_i (len_pair len_i (len_pair len_s (len_pair len_sl (len_pair len_s len_i))))
theorem ev_b {w : World} {B : Nat} {e : Ev} {cs : List Value} (h : rEv w B e cs) : EvB e := by
 obtain ⟨_,_,_,_,_,_,_,_,_,_,_,h1,_,_,_,h2,_,_,_,h3,_⟩ := h
 refine ⟨h2.all.1,str_bound h1,str_bound h3,fun d hd => ?_⟩
 obtain ⟨vs,h4⟩ := h2.all.2 d hd
 exact str_bound h4
theorem doesMatch_any (cs ce : List Value) (c : Cache) (e : Ev) (W : World) (h : rCache W W.heap.size c cs) (he : rEv W W.heap.size e ce) : Calls Tryz.prog 3 #[.agg cs.toArray,.agg ce.toArray] W fun e w' => e = .returned (.bool true) ∧ Below W.heap.size W w' :=
 (doesMatch_law c e (cache_bound h) (ev_b he)).callsA rfl (args2q (fz_cache.agg len_cache h) (fz_ev.agg len_ev he))
end Go.Proofs.YtfajjcmagngfiaaGreatDoor
namespace Go.Proofs.YtfajjcmagngfiaaGreatDoor
open Go.RowKit
theorem own : ownKnob Tryz.prog.godebug = none := by kernel_rfl
theorem laidOut : laidOutB Tryz.prog = true := by kernel_rfl
end Go.Proofs.YtfajjcmagngfiaaGreatDoor
namespace Go.Proofs.YtfajjcmagngfiaaGreatDoor
open Go.ChangeShapes Go.WideShapes Go.ChangeAt Go.RowKit

def setCs (cs : Array Value) : Obj → Obj
 | .cells _ t frozen => .cells cs t frozen
 | o => o
def firstCs : Array Value := (Pinned.utf8FirstZ.map fun (x : Nat) => Value.int .u8 (x : Int)).toArray
def acceptCs : Array Value := ([128,191,160,191,128,159,144,191,128,143,0,0,0,0,0,0,0,0,0,0,0,0,0,0,0,0,0,0,0,0,0,0].map fun (x : Nat) => Value.int .u8 (x : Int)).toArray
noncomputable def laidWorld (os : Os) : World :=
 { World.holding Tryz.prog os ⟨#[],#[],[]⟩ with heap := ((World.holding Tryz.prog os ⟨#[],#[],[]⟩).heap.modify 1 (setCs firstCs)).modify 2 (setCs acceptCs) }
end Go.Proofs.YtfajjcmagngfiaaGreatDoor
