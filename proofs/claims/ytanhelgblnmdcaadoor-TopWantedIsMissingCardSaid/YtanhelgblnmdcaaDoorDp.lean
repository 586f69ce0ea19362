/-
  cache.do at get, ask and drop. No statement of the seat is proved here; no conditions.
-/
import Derived.Test.YtanhelgblnmdcaaDoorDo
namespace Go.Proofs.YtanhelgblnmdcaaDoor
open Go.RowKit Go.Shelf
set_option linter.unusedVariables false
set_option linter.unusedSimpArgs false
set_option maxRecDepth 100000

theorem hasB_keys {a b : List Blob} {d : ByteArray} (h : a.map (fun x => x.1) = b.map (fun x => x.1)) : hasB a d = hasB b d := by
 have : ∀ l : List Blob,hasB l d = (l.map (fun x => x.1)).any (fun k => decide (k = d)) := fun l => by
  rw [List.any_map];rfl
 rw [this,this,h]
theorem missing_keys {a b : List Blob} {ds : List ByteArray} (h : a.map (fun x => x.1) = b.map (fun x => x.1)) : missingOf a ds = missingOf b ds := by
 unfold missingOf
 congr 1
 funext d
 rw [hasB_keys h]

set_option maxHeartbeats 4000000 in
theorem do_get {room lease : Int} {bl : List Blob} {en : List Entry} {e : Ev} (h : DoOk room bl en e) (hk : ckEv e = 0) (hn : ¬ e.2.1 < newestV bl en) (h1 : e.1 = 2) : DoF room lease bl en e (actV room lease bl en e) := by
 have e0 : actV room lease bl en e = (touchL lease e.2.1 true true bl [e.2.2.1],en,hasB bl e.2.2.1,.v .nil,.v .nil,0) := by rw [actV];simp [h1]
 rw [e0]
 clear e0
 have hc := checkEvent_f e h.hd
 have hP := touch_g room lease bl en [e.2.2.1] e.2.1 true true h.hb h.hr (by simp)
 have hN := newest_f (room,lease,bl,en) h.hb h.he
 have hF := find_f (room,lease,bl,en) e.2.2.1 h.hb h.hr
 rw [hk] at hc
 replace h := hide h
 replace hk := hide hk
 obtain ⟨kind,at_,dg,ds,key,size⟩ := e
 dsimp only at h1 hn hF
 subst h1
 refine FCall.of_ax low_cache_do ?_
 dsimp only [l_cache_do,aEv] at hc ⊢
 have d0 : decide ((0 : Int) = 0) = true := rfl
 have t1 : decide ((2 : Int) = 1) = false := rfl
 have t2 : decide ((2 : Int) = 2) = true := rfl
 have t3 : decide ((2 : Int) = 3) = false := rfl
 have t4 : decide ((2 : Int) = 4) = false := rfl
 have t5 : decide ((2 : Int) = 5) = false := rfl
 have t6 : decide ((2 : Int) = 6) = false := rfl
 have t7 : decide ((2 : Int) = 7) = false := rfl
 have t8 : decide ((2 : Int) = 8) = false := rfl
 refine srun_sound 300 _ _ _ _ ?_
 repeat' (first
  | (simp -implicitDefEqProofs only [*,addFp_wr,zr,Nat.reduceAdd,Nat.reduceSub,Nat.reduceMul,Nat.reduceLT,Nat.reduceLeDiff,Nat.reduceEqDiff,Nat.reduceBEq,reduceIte,reduceCtorEq,Int.reduceLE,Int.reduceLT,Int.reduceToNat,Int.reduceEq,Int.reduceNe])
  | ((first|apply zk0|apply zk1|apply zk2|apply zk3|apply zk4|apply zk5|apply zk6|apply zk7|apply zk8|apply zk9) <;> intro hc)
  |(refine callP0 rfl ?_)
  |(refine callD0 rfl ?_)
  |(refine cP (hc) ?_)
  |(refine cD (hc) ?_)
  |(refine cF (hc) ?_)
  |(refine cO (hc) ?_)
  | fail)
 refine gDC (tl := []) hN rfl rfl ?_
 clear hN
 generalize newestV bl en = nw at *
 have dn : decide (at_ < nw) = false := dcF hn
 replace hn := hide hn
 repeat' (first
  | (simp -implicitDefEqProofs only [*,addFp_wr,zr,Nat.reduceAdd,Nat.reduceSub,Nat.reduceMul,Nat.reduceLT,Nat.reduceLeDiff,Nat.reduceEqDiff,Nat.reduceBEq,reduceIte,reduceCtorEq,Int.reduceLE,Int.reduceLT,Int.reduceToNat,Int.reduceEq,Int.reduceNe])
  | ((first|apply zk0|apply zk1|apply zk2|apply zk3|apply zk4|apply zk5|apply zk6|apply zk7|apply zk8|apply zk9) <;> intro hc)
  |(refine callP0 rfl ?_)
  |(refine callD0 rfl ?_)
  | fail)
 refine gDC (tl := [.str dg]) hF rfl rfl ?_
 clear hF
 repeat' (first
  | (simp -implicitDefEqProofs only [*,addFp_wr,zr,Nat.reduceAdd,Nat.reduceSub,Nat.reduceMul,Nat.reduceLT,Nat.reduceLeDiff,Nat.reduceEqDiff,Nat.reduceBEq,reduceIte,reduceCtorEq,Int.reduceLE,Int.reduceLT,Int.reduceToNat,Int.reduceEq,Int.reduceNe])
  | ((first|apply zk0|apply zk1|apply zk2|apply zk3|apply zk4|apply zk5|apply zk6|apply zk7|apply zk8|apply zk9) <;> intro hc)
  |(refine callP0 rfl ?_)
  |(refine callD0 rfl ?_)
  | fail)
 dsimp only at hP ⊢
 refine ax_weakA [] (nw := []) (n := 114) (el := [(0,.ptr 100001 1 0),(3,.ptr 3 1 0),(4,.ptr 4 1 0),(8,.f (.bool (hasB bl dg))),(44,.ptr 100001 1 0),(47,.f (frStrs [dg])),(49,.f (.int .i64 at_))]) (hl := [(3,1,.cells [.f (.int .i64 2),.f (.int .i64 at_),.f (.str dg),.f (frStrs ds),.f (.str key),.f (.int .i64 size)]),(4,1,.cells [.f (.bool false),.f .nil,.f .nil]),(80000,1,.cells ((rowF fBlob bl).map .f)),(81000,1,.cells ((rowF fEntry en).map .f)),(100001,1,.cells [.f (.int .i64 room),.f (.int .i64 lease),.sl 80000 1 5 0 bl.length,.sl 81000 1 3 0 en.length])]) rfl ?_ ?_
 ·refine wk_i ?_ ?_ <;> simp only [so_mf,mapOfH_some,so_ptf,so_cc,so_ff',cellsOf_some,List.drop_zero,List.take_succ_cons,List.take_zero,Nat.zero_add,Nat.le_refl,zw,Nat.reduceEqDiff,Nat.reduceBEq,Nat.reduceLT,Nat.reduceLeDiff,reduceIte,reduceCtorEq]
  exact so_row0 (enc := encS) (l := [dg]) (fun _ => rfl) rfl rfl rfl
 refine gP hP 100001 1 [.f (.int .i64 room),.f (.int .i64 lease),.sl 80000 1 5 0 bl.length,.sl 81000 1 3 0 en.length] [] [.f (frStrs [dg]),.f (.int .i64 at_),.f (.bool true),.f (.bool true)] ?_
 clear hP
 generalize touchL lease at_ true true bl [dg] = B at *
 repeat' (first
  | (simp -implicitDefEqProofs only [*,addFp_wr,zr,Nat.reduceAdd,Nat.reduceSub,Nat.reduceMul,Nat.reduceLT,Nat.reduceLeDiff,Nat.reduceEqDiff,Nat.reduceBEq,reduceIte,reduceCtorEq,Int.reduceLE,Int.reduceLT,Int.reduceToNat,Int.reduceEq,Int.reduceNe])
  | ((first|apply zk0|apply zk1|apply zk2|apply zk3|apply zk4|apply zk5|apply zk6|apply zk7|apply zk8|apply zk9) <;> intro hc)
  |(refine callP0 rfl ?_)
  |(refine callD0 rfl ?_)
  | fail)
 exact end_a rfl rfl rfl (lenB rfl) (lenE rfl)
set_option maxHeartbeats 4000000 in
theorem do_ask {room lease : Int} {bl : List Blob} {en : List Entry} {e : Ev} (h : DoOk room bl en e) (hk : ckEv e = 0) (hn : ¬ e.2.1 < newestV bl en) (h1 : e.1 = 3) : DoF room lease bl en e (actV room lease bl en e) := by
 have e0 : actV room lease bl en e = (touchL lease e.2.1 false true bl e.2.2.2.1,en,decide ((missingOf bl e.2.2.2.1).length = 0),rcS (missingOf bl e.2.2.2.1),.v .nil,0) := by rw [actV];simp [h1]
 rw [e0]
 clear e0
 have hc := checkEvent_f e h.hd
 have hP := touch_g room lease bl en e.2.2.2.1 e.2.1 false true h.hb h.hr h.hd
 have hN := newest_f (room,lease,bl,en) h.hb h.he
 have hF := find_f (room,lease,bl,en) e.2.2.1 h.hb h.hr
 rw [hk] at hc
 have hM := missing_f (room,lease,touchL lease e.2.1 false true bl e.2.2.2.1,en) e.2.2.2.1 (by rw [touchL_len];exact h.hb) (touchL_rise h.hr) h.hd
 have hmk : missingOf (touchL lease e.2.1 false true bl e.2.2.2.1) e.2.2.2.1 = missingOf bl e.2.2.2.1 := missing_keys touchL_keys
 dsimp only at hM
 rw [hmk] at hM
 clear hmk
 replace h := hide h
 replace hk := hide hk
 obtain ⟨kind,at_,dg,ds,key,size⟩ := e
 dsimp only at h1 hn hF
 subst h1
 refine FCall.of_ax low_cache_do ?_
 dsimp only [l_cache_do,aEv] at hc ⊢
 have d0 : decide ((0 : Int) = 0) = true := rfl
 have t1 : decide ((3 : Int) = 1) = false := rfl
 have t2 : decide ((3 : Int) = 2) = false := rfl
 have t3 : decide ((3 : Int) = 3) = true := rfl
 have t4 : decide ((3 : Int) = 4) = false := rfl
 have t5 : decide ((3 : Int) = 5) = false := rfl
 have t6 : decide ((3 : Int) = 6) = false := rfl
 have t7 : decide ((3 : Int) = 7) = false := rfl
 have t8 : decide ((3 : Int) = 8) = false := rfl
 refine srun_sound 300 _ _ _ _ ?_
 repeat' (first
  | (simp -implicitDefEqProofs only [*,addFp_wr,zr,Nat.reduceAdd,Nat.reduceSub,Nat.reduceMul,Nat.reduceLT,Nat.reduceLeDiff,Nat.reduceEqDiff,Nat.reduceBEq,reduceIte,reduceCtorEq,Int.reduceLE,Int.reduceLT,Int.reduceToNat,Int.reduceEq,Int.reduceNe])
  | ((first|apply zk0|apply zk1|apply zk2|apply zk3|apply zk4|apply zk5|apply zk6|apply zk7|apply zk8|apply zk9) <;> intro hc)
  |(refine callP0 rfl ?_)
  |(refine callD0 rfl ?_)
  |(refine cP (hc) ?_)
  |(refine cD (hc) ?_)
  |(refine cF (hc) ?_)
  |(refine cO (hc) ?_)
  | fail)
 refine gDC (tl := []) hN rfl rfl ?_
 clear hN
 generalize newestV bl en = nw at *
 have dn : decide (at_ < nw) = false := dcF hn
 replace hn := hide hn
 repeat' (first
  | (simp -implicitDefEqProofs only [*,addFp_wr,zr,Nat.reduceAdd,Nat.reduceSub,Nat.reduceMul,Nat.reduceLT,Nat.reduceLeDiff,Nat.reduceEqDiff,Nat.reduceBEq,reduceIte,reduceCtorEq,Int.reduceLE,Int.reduceLT,Int.reduceToNat,Int.reduceEq,Int.reduceNe])
  | ((first|apply zk0|apply zk1|apply zk2|apply zk3|apply zk4|apply zk5|apply zk6|apply zk7|apply zk8|apply zk9) <;> intro hc)
  |(refine callP0 rfl ?_)
  |(refine callD0 rfl ?_)
  | fail)
 refine gDC (tl := [.str dg]) hF rfl rfl ?_
 clear hF
 repeat' (first
  | (simp -implicitDefEqProofs only [*,addFp_wr,zr,Nat.reduceAdd,Nat.reduceSub,Nat.reduceMul,Nat.reduceLT,Nat.reduceLeDiff,Nat.reduceEqDiff,Nat.reduceBEq,reduceIte,reduceCtorEq,Int.reduceLE,Int.reduceLT,Int.reduceToNat,Int.reduceEq,Int.reduceNe])
  | ((first|apply zk0|apply zk1|apply zk2|apply zk3|apply zk4|apply zk5|apply zk6|apply zk7|apply zk8|apply zk9) <;> intro hc)
  |(refine callP0 rfl ?_)
  |(refine callD0 rfl ?_)
  | fail)
 dsimp only at hP hM ⊢
 generalize touchL lease at_ false true bl ds = B at *
 refine gP hP 100001 1 [.f (.int .i64 room),.f (.int .i64 lease),.sl 80000 1 5 0 bl.length,.sl 81000 1 3 0 en.length] [] [.f (frStrs ds),.f (.int .i64 at_),.f (.bool false),.f (.bool true)] ?_
 clear hP
 repeat' (first
  | (simp -implicitDefEqProofs only [*,addFp_wr,zr,Nat.reduceAdd,Nat.reduceSub,Nat.reduceMul,Nat.reduceLT,Nat.reduceLeDiff,Nat.reduceEqDiff,Nat.reduceBEq,reduceIte,reduceCtorEq,Int.reduceLE,Int.reduceLT,Int.reduceToNat,Int.reduceEq,Int.reduceNe])
  | ((first|apply zk0|apply zk1|apply zk2|apply zk3|apply zk4|apply zk5|apply zk6|apply zk7|apply zk8|apply zk9) <;> intro hc)
  |(refine callP0 rfl ?_)
  |(refine callD0 rfl ?_)
  | fail)
 refine gDC (tl := [frStrs ds]) hM rfl rfl ?_ (hp := plain_strs _)
 clear hM
 generalize missingOf bl ds = M at *
 have dm : decide ((M.length : Int) = 0) = decide (M.length = 0) := by simp
 repeat' (first
  | (simp -implicitDefEqProofs only [*,addFp_wr,zr,Nat.reduceAdd,Nat.reduceSub,Nat.reduceMul,Nat.reduceLT,Nat.reduceLeDiff,Nat.reduceEqDiff,Nat.reduceBEq,reduceIte,reduceCtorEq,Int.reduceLE,Int.reduceLT,Int.reduceToNat,Int.reduceEq,Int.reduceNe])
  | ((first|apply zk0|apply zk1|apply zk2|apply zk3|apply zk4|apply zk5|apply zk6|apply zk7|apply zk8|apply zk9) <;> intro hc)
  |(refine callP0 rfl ?_)
  |(refine callD0 rfl ?_)
  | fail)
 exact end_m (i3 := 66) rfl rfl rfl rfl (lenB rfl) (lenE rfl)
theorem dropZ_f (room lease : Int) (bl : List Blob) (en : List Entry) (l : List ByteArray) (hb : bl.length ≤ 1000000) (hl : l.length ≤ 1000000) :
  FRetP Tryd.prog 32 [.v (.int .i64 room),.v (.int .i64 lease),.own 5 bl.length (rowF fBlob bl),.own 3 en.length (rowF fEntry en)] [] [.f (frStrs l)]
   [.v (.int .i64 room),.v (.int .i64 lease),.own 5 (keepL (fun b : Blob => hasS b.1 l) bl).length (rowF fBlob (keepL (fun b : Blob => hasS b.1 l) bl)),.own 3 en.length (rowF fEntry en)] [] :=
 (drop_f (room,lease,bl,en) bl.length en.length (rowF fBlob bl) (rowF fEntry en) rfl rfl l hb hl (lenE rfl) room lease).cut ⟨rcCut_v,rcCut_v,rcCut_t (lenB rfl),rcCut_0 (lenE rfl),rfl⟩
set_option maxHeartbeats 4000000 in
theorem do_drop {room lease : Int} {bl : List Blob} {en : List Entry} {e : Ev} (h : DoOk room bl en e) (hk : ckEv e = 0) (hn : ¬ e.2.1 < newestV bl en) (h1 : e.1 = 8) : DoF room lease bl en e (actV room lease bl en e) := by
 have e0 : actV room lease bl en e = dropV bl en e.2.1 e.2.2.1 := by rw [actV];simp [h1]
 rw [e0]
 clear e0
 have hc := checkEvent_f e h.hd
 have hP := dropZ_f room lease bl en [e.2.2.1] h.hb (by simp)
 have hN := newest_f (room,lease,bl,en) h.hb h.he
 have hF := find_f (room,lease,bl,en) e.2.2.1 h.hb h.hr
 rw [hk] at hc
 have hR := h.hr
 replace h := hide h
 replace hk := hide hk
 obtain ⟨kind,at_,dg,ds,key,size⟩ := e
 dsimp only at h1 hn hF
 subst h1
 refine FCall.of_ax low_cache_do ?_
 dsimp only [l_cache_do,aEv] at hc ⊢
 have d0 : decide ((0 : Int) = 0) = true := rfl
 have t1 : decide ((8 : Int) = 1) = false := rfl
 have t2 : decide ((8 : Int) = 2) = false := rfl
 have t3 : decide ((8 : Int) = 3) = false := rfl
 have t4 : decide ((8 : Int) = 4) = false := rfl
 have t5 : decide ((8 : Int) = 5) = false := rfl
 have t6 : decide ((8 : Int) = 6) = false := rfl
 have t7 : decide ((8 : Int) = 7) = false := rfl
 have t8 : decide ((8 : Int) = 8) = true := rfl
 refine srun_sound 300 _ _ _ _ ?_
 repeat' (first
  | (simp -implicitDefEqProofs only [*,addFp_wr,zr,Nat.reduceAdd,Nat.reduceSub,Nat.reduceMul,Nat.reduceLT,Nat.reduceLeDiff,Nat.reduceEqDiff,Nat.reduceBEq,reduceIte,reduceCtorEq,Int.reduceLE,Int.reduceLT,Int.reduceToNat,Int.reduceEq,Int.reduceNe])
  | ((first|apply zk0|apply zk1|apply zk2|apply zk3|apply zk4|apply zk5|apply zk6|apply zk7|apply zk8|apply zk9) <;> intro hc)
  |(refine callP0 rfl ?_)
  |(refine callD0 rfl ?_)
  |(refine cP (hc) ?_)
  |(refine cD (hc) ?_)
  |(refine cF (hc) ?_)
  |(refine cO (hc) ?_)
  | fail)
 refine gDC (tl := []) hN rfl rfl ?_
 clear hN
 generalize newestV bl en = nw at *
 have dn : decide (at_ < nw) = false := dcF hn
 replace hn := hide hn
 repeat' (first
  | (simp -implicitDefEqProofs only [*,addFp_wr,zr,Nat.reduceAdd,Nat.reduceSub,Nat.reduceMul,Nat.reduceLT,Nat.reduceLeDiff,Nat.reduceEqDiff,Nat.reduceBEq,reduceIte,reduceCtorEq,Int.reduceLE,Int.reduceLT,Int.reduceToNat,Int.reduceEq,Int.reduceNe])
  | ((first|apply zk0|apply zk1|apply zk2|apply zk3|apply zk4|apply zk5|apply zk6|apply zk7|apply zk8|apply zk9) <;> intro hc)
  |(refine callP0 rfl ?_)
  |(refine callD0 rfl ?_)
  | fail)
 refine gDC (tl := [.str dg]) hF rfl rfl ?_
 clear hF
 cases hh : hasB bl dg
 ·have e1 : dropV bl en at_ dg = (bl,en,false,.v .nil,.v .nil,0) := by
   unfold dropV
   split
   ·rw [hh];rfl
   ·rfl
  rw [e1]
  repeat' (first
   | (simp -implicitDefEqProofs only [*,addFp_wr,zr,Nat.reduceAdd,Nat.reduceSub,Nat.reduceMul,Nat.reduceLT,Nat.reduceLeDiff,Nat.reduceEqDiff,Nat.reduceBEq,reduceIte,reduceCtorEq,Int.reduceLE,Int.reduceLT,Int.reduceToNat,Int.reduceEq,Int.reduceNe])
   | ((first|apply zk0|apply zk1|apply zk2|apply zk3|apply zk4|apply zk5|apply zk6|apply zk7|apply zk8|apply zk9) <;> intro hc)
   |(refine callP0 rfl ?_)
   |(refine callD0 rfl ?_)
   | fail)
  exact end_a rfl rfl rfl (lenB rfl) (lenE rfl)
 ·obtain ⟨y,hy,hyd⟩ := hasB_at hR hh
  replace hyd := hide hyd
  have e0 : dropV bl en at_ dg = if heldB y at_ then (bl,en,false,.v .nil,.v .nil,0) else (keepL (fun b : Blob => hasS b.1 [dg]) bl,en,true,.v .nil,rcS [dg],0) := by
   unfold dropV
   rw [hy,hh]
   show (if (true && !heldB y at_) = true then _ else _) = _
   cases heldB y at_ <;> rfl
  rw [e0]
  clear e0
  obtain ⟨i,hi⟩ : ∃ i,bIdx bl dg = i := ⟨_,rfl⟩
  rw [hi] at hy ⊢
  have hlt2 := (List.getElem?_eq_some_iff.1 hy).1
  have hL := lt_t hlt2
  have hq := held_f y at_
  have q0 : (rowF fBlob bl).length = bl.length * 5 := row_len (sz := 5) (fun _ => rfl)
  have p2 : (i * 5 + 5 ≤ bl.length * 5) = True := by rw [eq_iff_iff,iff_true];omega
  have g1 := row_get (enc := fBlob) (sz := 5) (fun _ => rfl) hy
  clear hR
  cases hd : heldB y at_
  ·rw [hd] at hq
   rw [if_neg (by simp)]
   repeat' (first
    | (simp -implicitDefEqProofs only [*,addFp_wr,fBlob,List.map_cons,List.map_nil,zr,Nat.reduceAdd,Nat.reduceSub,Nat.reduceMul,Nat.reduceLT,Nat.reduceLeDiff,Nat.reduceEqDiff,Nat.reduceBEq,reduceIte,reduceCtorEq,Int.reduceLE,Int.reduceLT,Int.reduceToNat,Int.reduceEq,Int.reduceNe])
    | ((first|apply zk0|apply zk1|apply zk2|apply zk3|apply zk4|apply zk5|apply zk6|apply zk7|apply zk8|apply zk9) <;> intro hc)
    |(refine callP0 rfl ?_)
    |(refine callD0 rfl ?_)
    |(refine cP (hq) ?_)
    |(refine cD (hq) ?_)
    |(refine cF (hq) ?_)
    |(refine cO (hq) ?_)
    | fail)
   dsimp only at hP
   refine ax_weakA [] (nw := []) (n := 114) (el := [(0,.ptr 100001 1 0),(3,.ptr 3 1 0),(4,.ptr 4 1 0),(105,.ptr 100001 1 0),(108,.f (frStrs [dg]))]) (hl := [(3,1,.cells [.f (.int .i64 8),.f (.int .i64 at_),.f (.str dg),.f (frStrs ds),.f (.str key),.f (.int .i64 size)]),(4,1,.cells [.f (.bool false),.f .nil,.f .nil]),(80000,1,.cells ((rowF fBlob bl).map .f)),(81000,1,.cells ((rowF fEntry en).map .f)),(100001,1,.cells [.f (.int .i64 room),.f (.int .i64 lease),.sl 80000 1 5 0 bl.length,.sl 81000 1 3 0 en.length])]) rfl ?_ ?_
   ·refine wk_i ?_ ?_ <;> simp only [so_mf,mapOfH_some,so_ptf,so_cc,so_ff',cellsOf_some,List.drop_zero,List.take_succ_cons,List.take_zero,Nat.zero_add,Nat.le_refl,zw,Nat.reduceEqDiff,Nat.reduceBEq,Nat.reduceLT,Nat.reduceLeDiff,reduceIte,reduceCtorEq]
    exact so_row0 (enc := encS) (l := [dg]) (fun _ => rfl) rfl rfl rfl
   refine gP hP 100001 1 [.f (.int .i64 room),.f (.int .i64 lease),.sl 80000 1 5 0 bl.length,.sl 81000 1 3 0 en.length] [] [.f (frStrs [dg])] ?_
   clear hP
   generalize keepL (fun b : Blob => hasS b.1 [dg]) bl = K at *
   repeat' (first
    | (simp -implicitDefEqProofs only [*,addFp_wr,zr,Nat.reduceAdd,Nat.reduceSub,Nat.reduceMul,Nat.reduceLT,Nat.reduceLeDiff,Nat.reduceEqDiff,Nat.reduceBEq,reduceIte,reduceCtorEq,Int.reduceLE,Int.reduceLT,Int.reduceToNat,Int.reduceEq,Int.reduceNe])
    | ((first|apply zk0|apply zk1|apply zk2|apply zk3|apply zk4|apply zk5|apply zk6|apply zk7|apply zk8|apply zk9) <;> intro hc)
    |(refine callP0 rfl ?_)
    |(refine callD0 rfl ?_)
    | fail)
   exact ⟨[.agg [.f (.bool true),.f .nil,.sl 112 1 1 0 1],.f (.int .i64 0)],[.f (.int .i64 room),.f (.int .i64 lease),.sl 109 1 5 0 K.length,.sl 1109 1 3 0 en.length],rfl,rfl,⟨rfl,rfl,.inr ⟨109,1,rfl,rfl,lenB rfl⟩,.inr ⟨1109,1,rfl,rfl,lenE rfl⟩,rfl⟩,⟨⟨rfl,rfl,.inr ⟨112,1,rfl,rfl,Nat.le_refl _⟩,rfl⟩,rfl,rfl⟩,by simp [idsC,idsS],by simp [idsC,idsS]⟩
  ·rw [hd] at hq
   rw [if_pos rfl]
   repeat' (first
    | (simp -implicitDefEqProofs only [*,addFp_wr,fBlob,List.map_cons,List.map_nil,zr,Nat.reduceAdd,Nat.reduceSub,Nat.reduceMul,Nat.reduceLT,Nat.reduceLeDiff,Nat.reduceEqDiff,Nat.reduceBEq,reduceIte,reduceCtorEq,Int.reduceLE,Int.reduceLT,Int.reduceToNat,Int.reduceEq,Int.reduceNe])
    | ((first|apply zk0|apply zk1|apply zk2|apply zk3|apply zk4|apply zk5|apply zk6|apply zk7|apply zk8|apply zk9) <;> intro hc)
    |(refine callP0 rfl ?_)
    |(refine callD0 rfl ?_)
    |(refine cP (hq) ?_)
    |(refine cD (hq) ?_)
    |(refine cF (hq) ?_)
    |(refine cO (hq) ?_)
    | fail)
   exact end_a rfl rfl rfl (lenB rfl) (lenE rfl)
end Go.Proofs.YtanhelgblnmdcaaDoor
