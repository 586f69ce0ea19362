/-
  cache.do. No statement of the seat is proved here; no conditions.
-/
import Derived.Test.YtanhelgblnmdcaaDoorDp
namespace Go.Proofs.YtanhelgblnmdcaaDoor
open Go.RowKit Go.Shelf
set_option linter.unusedVariables false
set_option linter.unusedSimpArgs false
set_option maxRecDepth 100000

set_option maxHeartbeats 4000000 in
theorem do_old {room lease : Int} {bl : List Blob} {en : List Entry} {e : Ev} (h : DoOk room bl en e) (hk : ckEv e = 0) (hn : e.2.1 < newestV bl en) : DoF room lease bl en e (bl,en,false,.v .nil,.v .nil,11) := by
 have hc := checkEvent_f e h.hd
 have hN := newest_f (room,lease,bl,en) h.hb h.he
 rw [hk] at hc
 replace hk := hide hk
 replace h := hide h
 obtain ⟨kind,at_,dg,ds,key,size⟩ := e
 dsimp only at hn
 have d0 : decide ((0 : Int) = 0) = true := rfl
 refine FCall.of_ax low_cache_do ?_
 dsimp only [l_cache_do,aEv] at hc ⊢
 refine srun_sound 300 _ _ _ _ ?_
 repeat' (first
  | (simp -implicitDefEqProofs only [*,addFp_wr,zr,Nat.reduceAdd,Nat.reduceSub,Nat.reduceMul,Nat.reduceLT,Nat.reduceLeDiff,Nat.reduceEqDiff,Nat.reduceBEq,reduceIte,reduceCtorEq,Int.reduceLE,Int.reduceLT,Int.reduceToNat,Int.reduceEq,Int.reduceNe])
  | ((first|apply zk0|apply zk1|apply zk2|apply zk3|apply zk4|apply zk5|apply zk6|apply zk7|apply zk8|apply zk9) <;> intro hc)
  |(refine callP0 rfl ?_)
  |(refine callD0 rfl ?_)
  |(refine cP (hc) ?_)
  |(refine cD (hc) ?_)
  |(refine cF (hc) ?_)
  | fail)
 refine gDC (tl := []) hN rfl rfl ?_
 clear hN
 generalize newestV bl en = nw at *
 have dn : decide (at_ < nw) = true := dcT hn
 replace hn := hide hn
 repeat' (first
  | (simp -implicitDefEqProofs only [*,addFp_wr,zr,Nat.reduceAdd,Nat.reduceSub,Nat.reduceMul,Nat.reduceLT,Nat.reduceLeDiff,Nat.reduceEqDiff,Nat.reduceBEq,reduceIte,reduceCtorEq,Int.reduceLE,Int.reduceLT,Int.reduceToNat,Int.reduceEq,Int.reduceNe])
  | ((first|apply zk0|apply zk1|apply zk2|apply zk3|apply zk4|apply zk5|apply zk6|apply zk7|apply zk8|apply zk9) <;> intro hc)
  |(refine callP0 rfl ?_)
  |(refine callD0 rfl ?_)
  | fail)
 exact end_a rfl rfl rfl (lenB rfl) (lenE rfl)
theorem ckEv_kind {e : Ev} (h : ckEv e = 0) : 1 ≤ e.1 ∧ e.1 ≤ 8 := by
 unfold ckEv at h
 split at h
 ·rename_i hr
  simp only [inRg,Bool.and_eq_true,decide_eq_true_eq] at hr
  exact hr
 ·cases h
theorem do_f {room lease : Int} {bl : List Blob} {en : List Entry} {e : Ev} (hl : (e.2.2.2.1.length : Int) ≤ 9223372036854775807) (h : ckEv e = 0 → DoOk room bl en e) : DoF room lease bl en e (doV room lease bl en e) := by
 by_cases hk : ckEv e = 0
 ·have h := h hk
  by_cases hn : e.2.1 < newestV bl en
  ·have e0 : doV room lease bl en e = (bl,en,false,.v .nil,.v .nil,11) := by rw [doV,if_pos hk,if_pos hn]
   rw [e0];exact do_old h hk hn
  ·have e0 : doV room lease bl en e = actV room lease bl en e := by rw [doV,if_pos hk,if_neg hn]
   rw [e0]
   have hr := ckEv_kind hk
   by_cases k1 : e.1 = 1
   ·exact do_put h hk hn k1
   by_cases k2 : e.1 = 2
   ·exact do_get h hk hn k2
   by_cases k3 : e.1 = 3
   ·exact do_ask h hk hn k3
   by_cases k4 : e.1 = 4
   ·exact do_pin h hk hn k4
   by_cases k5 : e.1 = 5
   ·exact do_unpin h hk hn k5
   by_cases k6 : e.1 = 6
   ·exact do_store h hk hn k6
   by_cases k7 : e.1 = 7
   ·exact do_search h hk hn k7
   exact do_drop h hk hn (by omega)
 ·have e0 : doV room lease bl en e = (bl,en,false,.v .nil,.v .nil,ckEv e) := by rw [doV,if_neg hk]
  rw [e0];exact do_bad hl hk
end Go.Proofs.YtanhelgblnmdcaaDoor
