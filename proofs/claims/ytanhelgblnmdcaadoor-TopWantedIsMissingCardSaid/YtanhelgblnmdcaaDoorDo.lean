/-
  cache.do. No statement of the seat is proved here; no conditions.
-/
import Derived.Test.YtanhelgblnmdcaaDoorNew
import Derived.Test.YtanhelgblnmdcaaDoorEvt
namespace Go.Proofs.YtanhelgblnmdcaaDoor
open Go.RowKit Go.Shelf
set_option linter.unusedVariables false
set_option linter.unusedSimpArgs false
set_option maxRecDepth 100000

def dropV (bl : List Blob) (en : List Entry) (at_ : Int) (d : ByteArray) : List Blob × List Entry × Bool × RC × RC × Int := match bl[bIdx bl d]? with
 | some y => if hasB bl d && !heldB y at_ then (keepL (fun b : Blob => hasS b.1 [d]) bl,en,true,.v .nil,rcS [d],0) else (bl,en,false,.v .nil,.v .nil,0)
 | none => (bl,en,false,.v .nil,.v .nil,0)
def actV (room lease : Int) (bl : List Blob) (en : List Entry) (e : Ev) : List Blob × List Entry × Bool × RC × RC × Int :=
 if e.1 = 1 then ((putV room lease bl e.2.1 e.2.2.1 e.2.2.2.2.2).1,en,(putV room lease bl e.2.1 e.2.2.1 e.2.2.2.2.2).2.1,.v .nil,.v (putV room lease bl e.2.1 e.2.2.1 e.2.2.2.2.2).2.2.1,(putV room lease bl e.2.1 e.2.2.1 e.2.2.2.2.2).2.2.2)
 else if e.1 = 2 then (touchL lease e.2.1 true true bl [e.2.2.1],en,hasB bl e.2.2.1,.v .nil,.v .nil,0)
 else if e.1 = 3 then (touchL lease e.2.1 false true bl e.2.2.2.1,en,decide ((missingOf bl e.2.2.2.1).length = 0),rcS (missingOf bl e.2.2.2.1),.v .nil,0)
 else if e.1 = 4 ∨ e.1 = 5 then ((pinV e.1 bl e.2.2.1).1,en,(pinV e.1 bl e.2.2.1).2.1,.v .nil,.v .nil,(pinV e.1 bl e.2.2.1).2.2)
 else if e.1 = 6 then ((storeV lease bl en e.2.1 e.2.2.2.2.1 e.2.2.2.1).1,(storeV lease bl en e.2.1 e.2.2.2.2.1 e.2.2.2.1).2.1,(storeV lease bl en e.2.1 e.2.2.2.2.1 e.2.2.2.1).2.2.1,(storeV lease bl en e.2.1 e.2.2.2.2.1 e.2.2.2.1).2.2.2,.v .nil,0)
 else if e.1 = 7 then ((searchV lease bl en e.2.1 e.2.2.2.2.1).1,(searchV lease bl en e.2.1 e.2.2.2.2.1).2.1,(searchV lease bl en e.2.1 e.2.2.2.2.1).2.2.1,(searchV lease bl en e.2.1 e.2.2.2.2.1).2.2.2,.v .nil,0)
 else dropV bl en e.2.1 e.2.2.1
def doV (room lease : Int) (bl : List Blob) (en : List Entry) (e : Ev) : List Blob × List Entry × Bool × RC × RC × Int :=
 if ckEv e = 0 then (if e.2.1 < newestV bl en then (bl,en,false,.v .nil,.v .nil,11) else actV room lease bl en e) else (bl,en,false,.v .nil,.v .nil,ckEv e)
structure DoOk (room : Int) (bl : List Blob) (en : List Entry) (e : Ev) : Prop where
 hb : bl.length ≤ 1000000
 he : en.length ≤ 1000000
 hd : e.2.2.2.1.length ≤ 1000000
 hr : Rising (fun b : Blob => b.1) bl
 hre : Rising (fun b : Entry => b.1) en
 hrf : ∀ x ∈ en,x.2.1.length ≤ 1000000
 hsz : ∀ b ∈ bl,0 ≤ b.2.1 ∧ b.2.1 ≤ 100000000
 hov : overV room bl e.2.2.2.2.2 ≤ 1000000000000000
def DoF (room lease : Int) (bl : List Blob) (en : List Entry) (e : Ev) (r : List Blob × List Entry × Bool × RC × RC × Int) : Prop :=
 FRetP Tryd.prog 11 [.v (.int .i64 room),.v (.int .i64 lease),.own 5 bl.length (rowF fBlob bl),.own 3 en.length (rowF fEntry en)] [] [aEv e]
  [.v (.int .i64 room),.v (.int .i64 lease),.own 5 r.1.length (rowF fBlob r.1),.own 3 r.2.1.length (rowF fEntry r.2.1)] [rAnsM r.2.2.1 r.2.2.2.1 r.2.2.2.2.1,.c (.v (.int .i64 r.2.2.2.2.2))]
set_option maxHeartbeats 4000000 in
theorem do_bad {room lease : Int} {bl : List Blob} {en : List Entry} {e : Ev} (h : (e.2.2.2.1.length : Int) ≤ 9223372036854775807) (hk : ckEv e ≠ 0) : DoF room lease bl en e (bl,en,false,.v .nil,.v .nil,ckEv e) := by
 have hc := checkEvent_g e h
 generalize ckEv e = q at *
 have d1 : decide (q = 0) = false := dcF hk
 replace hk := hide hk
 replace h := hide h
 obtain ⟨kind,at_,dg,ds,key,size⟩ := e
 refine FCall.of_ax low_cache_do ?_
 dsimp only [l_cache_do,aEv] at hc ⊢
 refine srun_sound 300 _ _ _ _ ?_
 repeat' (first
  | (simp -implicitDefEqProofs only [*,addFp_wr,zr,Nat.reduceAdd,Nat.reduceSub,Nat.reduceMul,Nat.reduceLT,Nat.reduceLeDiff,Nat.reduceEqDiff,Nat.reduceBEq,reduceIte,reduceCtorEq,Int.reduceLE,Int.reduceLT,Int.reduceToNat,Int.reduceEq,Int.reduceNe])
  | ((first|apply zk0|apply zk1|apply zk2|apply zk3|apply zk4|apply zk5|apply zk6|apply zk7|apply zk8|apply zk9) <;> intro hc)
  |(refine callP0 rfl ?_)
  |(refine callD0 rfl ?_)
  |(refine cP (hc) ?_)
  |(refine cD (hc) ?_)
  |(refine cF (hc) ?_)
  |(refine cO (hc) ?_)
  | fail)
 exact end_a rfl rfl rfl (lenB rfl) (lenE rfl)
set_option maxHeartbeats 4000000 in
theorem do_put {room lease : Int} {bl : List Blob} {en : List Entry} {e : Ev} (h : DoOk room bl en e) (hk : ckEv e = 0) (hn : ¬ e.2.1 < newestV bl en) (h1 : e.1 = 1) : DoF room lease bl en e (actV room lease bl en e) := by
 have e0 : actV room lease bl en e = ((putV room lease bl e.2.1 e.2.2.1 e.2.2.2.2.2).1,en,(putV room lease bl e.2.1 e.2.2.1 e.2.2.2.2.2).2.1,.v .nil,.v (putV room lease bl e.2.1 e.2.2.1 e.2.2.2.2.2).2.2.1,(putV room lease bl e.2.1 e.2.2.1 e.2.2.2.2.2).2.2.2) := by rw [actV,if_pos h1]
 rw [e0]
 clear e0
 have hc := checkEvent_f e h.hd
 have hP := put_f room lease bl en e h.hb h.hr h.hsz h.hov
 have hN := newest_f (room,lease,bl,en) h.hb h.he
 have hF := find_f (room,lease,bl,en) e.2.2.1 h.hb h.hr
 rw [hk] at hc
 generalize putV room lease bl e.2.1 e.2.2.1 e.2.2.2.2.2 = r at *
 obtain ⟨B,b,gn,ft⟩ := r
 dsimp only [rAns] at hP ⊢
 replace h := hide h
 replace hk := hide hk
 obtain ⟨kind,at_,dg,ds,key,size⟩ := e
 dsimp only at h1 hn hF
 subst h1
 refine FCall.of_ax low_cache_do ?_
 dsimp only [l_cache_do,aEv] at hc ⊢
 have d0 : decide ((0 : Int) = 0) = true := rfl
 have d1 : decide ((1 : Int) = 1) = true := rfl
 refine srun_sound 300 _ _ _ _ ?_
 repeat' (first
  | (simp -implicitDefEqProofs only [*,addFp_wr,zr,Nat.reduceAdd,Nat.reduceSub,Nat.reduceMul,Nat.reduceLT,Nat.reduceLeDiff,Nat.reduceEqDiff,Nat.reduceBEq,reduceIte,reduceCtorEq,Int.reduceLE,Int.reduceLT,Int.reduceToNat,Int.reduceEq,Int.reduceNe])
  | ((first|apply zk0|apply zk1|apply zk2|apply zk3|apply zk4|apply zk5|apply zk6|apply zk7|apply zk8|apply zk9) <;> intro hc)
  |(refine callP0 rfl ?_)
  |(refine callD0 rfl ?_)
  |(refine cP (hc) ?_)
  |(refine cD (hc) ?_)
  |(refine cF (hc) ?_)
  |(refine cO (hc) ?_)
  | fail)
 refine gDC (tl := []) hN rfl rfl ?_
 clear hN
 generalize newestV bl en = nw at *
 have dn : decide (at_ < nw) = false := dcF hn
 replace hn := hide hn
 repeat' (first
  | (simp -implicitDefEqProofs only [*,addFp_wr,zr,Nat.reduceAdd,Nat.reduceSub,Nat.reduceMul,Nat.reduceLT,Nat.reduceLeDiff,Nat.reduceEqDiff,Nat.reduceBEq,reduceIte,reduceCtorEq,Int.reduceLE,Int.reduceLT,Int.reduceToNat,Int.reduceEq,Int.reduceNe])
  | ((first|apply zk0|apply zk1|apply zk2|apply zk3|apply zk4|apply zk5|apply zk6|apply zk7|apply zk8|apply zk9) <;> intro hc)
  |(refine callP0 rfl ?_)
  |(refine callD0 rfl ?_)
  | fail)
 refine gDC (tl := [.str dg]) hF rfl rfl ?_
 clear hF
 repeat' (first
  | (simp -implicitDefEqProofs only [*,addFp_wr,zr,Nat.reduceAdd,Nat.reduceSub,Nat.reduceMul,Nat.reduceLT,Nat.reduceLeDiff,Nat.reduceEqDiff,Nat.reduceBEq,reduceIte,reduceCtorEq,Int.reduceLE,Int.reduceLT,Int.reduceToNat,Int.reduceEq,Int.reduceNe])
  | ((first|apply zk0|apply zk1|apply zk2|apply zk3|apply zk4|apply zk5|apply zk6|apply zk7|apply zk8|apply zk9) <;> intro hc)
  |(refine callP0 rfl ?_)
  |(refine callD0 rfl ?_)
  | fail)
 refine gP hP 100001 1 [.f (.int .i64 room),.f (.int .i64 lease),.sl 80000 1 5 0 bl.length,.sl 81000 1 3 0 en.length] [] [aEv (1,at_,dg,ds,key,size)] ?_
 clear hP
 repeat' (first
  | (simp -implicitDefEqProofs only [*,addFp_wr,zr,Nat.reduceAdd,Nat.reduceSub,Nat.reduceMul,Nat.reduceLT,Nat.reduceLeDiff,Nat.reduceEqDiff,Nat.reduceBEq,reduceIte,reduceCtorEq,Int.reduceLE,Int.reduceLT,Int.reduceToNat,Int.reduceEq,Int.reduceNe])
  | ((first|apply zk0|apply zk1|apply zk2|apply zk3|apply zk4|apply zk5|apply zk6|apply zk7|apply zk8|apply zk9) <;> intro hc)
  |(refine callP0 rfl ?_)
  |(refine callD0 rfl ?_)
  | fail)
 exact end_a rfl rfl rfl (lenB rfl) (lenE rfl)
theorem pinV_len {k : Int} {bl : List Blob} {d : ByteArray} : (pinV k bl d).1.length = bl.length := by
 unfold pinV
 split
 ·repeat' split
  all_goals first | rfl | exact List.length_set
 ·rfl
theorem pin_g (room lease : Int) (bl : List Blob) (en : List Entry) (e : Ev) (hb : bl.length ≤ 1000000) (hr : Rising (fun b : Blob => b.1) bl) :
  FRetP Tryd.prog 28 [.v (.int .i64 room),.v (.int .i64 lease),.own 5 bl.length (rowF fBlob bl),.own 3 en.length (rowF fEntry en)] [] [aEv e]
   [.v (.int .i64 room),.v (.int .i64 lease),.own 5 (pinV e.1 bl e.2.2.1).1.length (rowF fBlob (pinV e.1 bl e.2.2.1).1),.own 3 en.length (rowF fEntry en)] [rAns (pinV e.1 bl e.2.2.1).2.1 .nil .nil,.c (.v (.int .i64 (pinV e.1 bl e.2.2.1).2.2))] := by
 have h := pin_f room lease bl en e hb hr
 rw [pinV_len]
 exact h
theorem storeV_rc {lease : Int} {bl : List Blob} {en : List Entry} {at_ : Int} {key : ByteArray} {ds : List ByteArray} : (storeV lease bl en at_ key ds).2.2.2 = .v .nil ∨ ∃ l,(storeV lease bl en at_ key ds).2.2.2 = rcS l := by
 unfold storeV
 split
 ·exact .inl rfl
 ·exact .inr ⟨_,rfl⟩
theorem searchV_rc {lease : Int} {bl : List Blob} {en : List Entry} {at_ : Int} {key : ByteArray} : (searchV lease bl en at_ key).2.2.2 = .v .nil ∨ ∃ l,(searchV lease bl en at_ key).2.2.2 = rcS l := by
 unfold searchV
 repeat' split
 all_goals first | exact .inl rfl | exact .inr ⟨_,rfl⟩
theorem end_m {H : Heap} {i1 v1 i2 v2 i3 v3 n m : Nat} {room lease fault : Int} {b : Bool} {l : List ByteArray} {xs ys : List FV} {X : Nat × Option AObj} (hp : X = (1,some (.cells [.f (.int .i64 room),.f (.int .i64 lease),.sl i1 v1 5 0 n,.sl i2 v2 3 0 m]))) (h1 : cellsOf v1 (H i1) = some (xs.map .f)) (h2 : cellsOf v2 (H i2) = some (ys.map .f)) (h3 : cellsOf v3 (H i3) = some ((l.map .str).map .f)) (l1 : n * 5 ≤ xs.length) (l2 : m * 3 ≤ ys.length) (hne : i1 ≠ i2 := by decide) (hn1 : 100001 ≠ i1 := by decide) (hn2 : 100001 ≠ i2 := by decide) (hn3 : 100001 ≠ i3 := by decide) (hn4 : i1 ≠ i3 := by decide) (hn5 : i2 ≠ i3 := by decide) :
  ∃ l0 cs',AV.tup [.agg [.f (.bool b),.sl i3 v3 1 0 l.length,.f .nil],.f (.int .i64 fault)] = oneOrTup l0 ∧ X = (1,some (.cells cs')) ∧ RcsOk H [.v (.int .i64 room),.v (.int .i64 lease),.own 5 n xs,.own 3 m ys] cs' ∧ RsOk H [.agg [.v (.bool b),.own 1 l.length (l.map .str),.v .nil],.c (.v (.int .i64 fault))] l0 ∧ (idsC cs' ++ idsS l0).Nodup ∧ ¬100001 ∈ idsC cs' ++ idsS l0 :=
 ⟨[.agg [.f (.bool b),.sl i3 v3 1 0 l.length,.f .nil],.f (.int .i64 fault)],_,rfl,hp,⟨rfl,rfl,.inr ⟨i1,v1,rfl,h1,l1⟩,.inr ⟨i2,v2,rfl,h2,l2⟩,rfl⟩,⟨⟨rfl,.inr ⟨i3,v3,rfl,h3,by rw [List.length_map,Nat.mul_one];exact Nat.le_refl _⟩,rfl,rfl⟩,rfl,rfl⟩,by simp [idsC,idsS,hne,hn4,hn5],by simp [idsC,idsS,hn1,hn2,hn3]⟩
set_option maxHeartbeats 4000000 in
theorem do_pin {room lease : Int} {bl : List Blob} {en : List Entry} {e : Ev} (h : DoOk room bl en e) (hk : ckEv e = 0) (hn : ¬ e.2.1 < newestV bl en) (h1 : e.1 = 4) : DoF room lease bl en e (actV room lease bl en e) := by
 have e0 : actV room lease bl en e = ((pinV e.1 bl e.2.2.1).1,en,(pinV e.1 bl e.2.2.1).2.1,.v .nil,.v .nil,(pinV e.1 bl e.2.2.1).2.2) := by rw [actV];simp [h1]
 rw [e0]
 clear e0
 have hc := checkEvent_f e h.hd
 have hP := pin_g room lease bl en e h.hb h.hr
 have hN := newest_f (room,lease,bl,en) h.hb h.he
 have hF := find_f (room,lease,bl,en) e.2.2.1 h.hb h.hr
 rw [hk] at hc
 generalize pinV e.1 bl e.2.2.1 = r at *
 obtain ⟨B,b,ft⟩ := r
 dsimp only [rAns] at hP ⊢
 replace h := hide h
 replace hk := hide hk
 obtain ⟨kind,at_,dg,ds,key,size⟩ := e
 dsimp only at h1 hn hF
 subst h1
 refine FCall.of_ax low_cache_do ?_
 dsimp only [l_cache_do,aEv] at hc ⊢
 have d0 : decide ((0 : Int) = 0) = true := rfl
 have t1 : decide ((4 : Int) = 1) = false := rfl
 have t2 : decide ((4 : Int) = 2) = false := rfl
 have t3 : decide ((4 : Int) = 3) = false := rfl
 have t4 : decide ((4 : Int) = 4) = true := rfl
 have t5 : decide ((4 : Int) = 5) = false := rfl
 have t6 : decide ((4 : Int) = 6) = false := rfl
 have t7 : decide ((4 : Int) = 7) = false := rfl
 have t8 : decide ((4 : Int) = 8) = false := rfl
 refine srun_sound 300 _ _ _ _ ?_
 repeat' (first
  | (simp -implicitDefEqProofs only [*,addFp_wr,zr,Nat.reduceAdd,Nat.reduceSub,Nat.reduceMul,Nat.reduceLT,Nat.reduceLeDiff,Nat.reduceEqDiff,Nat.reduceBEq,reduceIte,reduceCtorEq,Int.reduceLE,Int.reduceLT,Int.reduceToNat,Int.reduceEq,Int.reduceNe])
  | ((first|apply zk0|apply zk1|apply zk2|apply zk3|apply zk4|apply zk5|apply zk6|apply zk7|apply zk8|apply zk9) <;> intro hc)
  |(refine callP0 rfl ?_)
  |(refine callD0 rfl ?_)
  |(refine cP (hc) ?_)
  |(refine cD (hc) ?_)
  |(refine cF (hc) ?_)
  |(refine cO (hc) ?_)
  | fail)
 refine gDC (tl := []) hN rfl rfl ?_
 clear hN
 generalize newestV bl en = nw at *
 have dn : decide (at_ < nw) = false := dcF hn
 replace hn := hide hn
 repeat' (first
  | (simp -implicitDefEqProofs only [*,addFp_wr,zr,Nat.reduceAdd,Nat.reduceSub,Nat.reduceMul,Nat.reduceLT,Nat.reduceLeDiff,Nat.reduceEqDiff,Nat.reduceBEq,reduceIte,reduceCtorEq,Int.reduceLE,Int.reduceLT,Int.reduceToNat,Int.reduceEq,Int.reduceNe])
  | ((first|apply zk0|apply zk1|apply zk2|apply zk3|apply zk4|apply zk5|apply zk6|apply zk7|apply zk8|apply zk9) <;> intro hc)
  |(refine callP0 rfl ?_)
  |(refine callD0 rfl ?_)
  | fail)
 refine gDC (tl := [.str dg]) hF rfl rfl ?_
 clear hF
 repeat' (first
  | (simp -implicitDefEqProofs only [*,addFp_wr,zr,Nat.reduceAdd,Nat.reduceSub,Nat.reduceMul,Nat.reduceLT,Nat.reduceLeDiff,Nat.reduceEqDiff,Nat.reduceBEq,reduceIte,reduceCtorEq,Int.reduceLE,Int.reduceLT,Int.reduceToNat,Int.reduceEq,Int.reduceNe])
  | ((first|apply zk0|apply zk1|apply zk2|apply zk3|apply zk4|apply zk5|apply zk6|apply zk7|apply zk8|apply zk9) <;> intro hc)
  |(refine callP0 rfl ?_)
  |(refine callD0 rfl ?_)
  | fail)
 refine gP hP 100001 1 [.f (.int .i64 room),.f (.int .i64 lease),.sl 80000 1 5 0 bl.length,.sl 81000 1 3 0 en.length] [] [aEv (4,at_,dg,ds,key,size)] ?_
 clear hP
 repeat' (first
  | (simp -implicitDefEqProofs only [*,addFp_wr,zr,Nat.reduceAdd,Nat.reduceSub,Nat.reduceMul,Nat.reduceLT,Nat.reduceLeDiff,Nat.reduceEqDiff,Nat.reduceBEq,reduceIte,reduceCtorEq,Int.reduceLE,Int.reduceLT,Int.reduceToNat,Int.reduceEq,Int.reduceNe])
  | ((first|apply zk0|apply zk1|apply zk2|apply zk3|apply zk4|apply zk5|apply zk6|apply zk7|apply zk8|apply zk9) <;> intro hc)
  |(refine callP0 rfl ?_)
  |(refine callD0 rfl ?_)
  | fail)
 exact end_a rfl rfl rfl (lenB rfl) (lenE rfl)
set_option maxHeartbeats 4000000 in
theorem do_unpin {room lease : Int} {bl : List Blob} {en : List Entry} {e : Ev} (h : DoOk room bl en e) (hk : ckEv e = 0) (hn : ¬ e.2.1 < newestV bl en) (h1 : e.1 = 5) : DoF room lease bl en e (actV room lease bl en e) := by
 have e0 : actV room lease bl en e = ((pinV e.1 bl e.2.2.1).1,en,(pinV e.1 bl e.2.2.1).2.1,.v .nil,.v .nil,(pinV e.1 bl e.2.2.1).2.2) := by rw [actV];simp [h1]
 rw [e0]
 clear e0
 have hc := checkEvent_f e h.hd
 have hP := pin_g room lease bl en e h.hb h.hr
 have hN := newest_f (room,lease,bl,en) h.hb h.he
 have hF := find_f (room,lease,bl,en) e.2.2.1 h.hb h.hr
 rw [hk] at hc
 generalize pinV e.1 bl e.2.2.1 = r at *
 obtain ⟨B,b,ft⟩ := r
 dsimp only [rAns] at hP ⊢
 replace h := hide h
 replace hk := hide hk
 obtain ⟨kind,at_,dg,ds,key,size⟩ := e
 dsimp only at h1 hn hF
 subst h1
 refine FCall.of_ax low_cache_do ?_
 dsimp only [l_cache_do,aEv] at hc ⊢
 have d0 : decide ((0 : Int) = 0) = true := rfl
 have t1 : decide ((5 : Int) = 1) = false := rfl
 have t2 : decide ((5 : Int) = 2) = false := rfl
 have t3 : decide ((5 : Int) = 3) = false := rfl
 have t4 : decide ((5 : Int) = 4) = false := rfl
 have t5 : decide ((5 : Int) = 5) = true := rfl
 have t6 : decide ((5 : Int) = 6) = false := rfl
 have t7 : decide ((5 : Int) = 7) = false := rfl
 have t8 : decide ((5 : Int) = 8) = false := rfl
 refine srun_sound 300 _ _ _ _ ?_
 repeat' (first
  | (simp -implicitDefEqProofs only [*,addFp_wr,zr,Nat.reduceAdd,Nat.reduceSub,Nat.reduceMul,Nat.reduceLT,Nat.reduceLeDiff,Nat.reduceEqDiff,Nat.reduceBEq,reduceIte,reduceCtorEq,Int.reduceLE,Int.reduceLT,Int.reduceToNat,Int.reduceEq,Int.reduceNe])
  | ((first|apply zk0|apply zk1|apply zk2|apply zk3|apply zk4|apply zk5|apply zk6|apply zk7|apply zk8|apply zk9) <;> intro hc)
  |(refine callP0 rfl ?_)
  |(refine callD0 rfl ?_)
  |(refine cP (hc) ?_)
  |(refine cD (hc) ?_)
  |(refine cF (hc) ?_)
  |(refine cO (hc) ?_)
  | fail)
 refine gDC (tl := []) hN rfl rfl ?_
 clear hN
 generalize newestV bl en = nw at *
 have dn : decide (at_ < nw) = false := dcF hn
 replace hn := hide hn
 repeat' (first
  | (simp -implicitDefEqProofs only [*,addFp_wr,zr,Nat.reduceAdd,Nat.reduceSub,Nat.reduceMul,Nat.reduceLT,Nat.reduceLeDiff,Nat.reduceEqDiff,Nat.reduceBEq,reduceIte,reduceCtorEq,Int.reduceLE,Int.reduceLT,Int.reduceToNat,Int.reduceEq,Int.reduceNe])
  | ((first|apply zk0|apply zk1|apply zk2|apply zk3|apply zk4|apply zk5|apply zk6|apply zk7|apply zk8|apply zk9) <;> intro hc)
  |(refine callP0 rfl ?_)
  |(refine callD0 rfl ?_)
  | fail)
 refine gDC (tl := [.str dg]) hF rfl rfl ?_
 clear hF
 repeat' (first
  | (simp -implicitDefEqProofs only [*,addFp_wr,zr,Nat.reduceAdd,Nat.reduceSub,Nat.reduceMul,Nat.reduceLT,Nat.reduceLeDiff,Nat.reduceEqDiff,Nat.reduceBEq,reduceIte,reduceCtorEq,Int.reduceLE,Int.reduceLT,Int.reduceToNat,Int.reduceEq,Int.reduceNe])
  | ((first|apply zk0|apply zk1|apply zk2|apply zk3|apply zk4|apply zk5|apply zk6|apply zk7|apply zk8|apply zk9) <;> intro hc)
  |(refine callP0 rfl ?_)
  |(refine callD0 rfl ?_)
  | fail)
 refine gP hP 100001 1 [.f (.int .i64 room),.f (.int .i64 lease),.sl 80000 1 5 0 bl.length,.sl 81000 1 3 0 en.length] [] [aEv (5,at_,dg,ds,key,size)] ?_
 clear hP
 repeat' (first
  | (simp -implicitDefEqProofs only [*,addFp_wr,zr,Nat.reduceAdd,Nat.reduceSub,Nat.reduceMul,Nat.reduceLT,Nat.reduceLeDiff,Nat.reduceEqDiff,Nat.reduceBEq,reduceIte,reduceCtorEq,Int.reduceLE,Int.reduceLT,Int.reduceToNat,Int.reduceEq,Int.reduceNe])
  | ((first|apply zk0|apply zk1|apply zk2|apply zk3|apply zk4|apply zk5|apply zk6|apply zk7|apply zk8|apply zk9) <;> intro hc)
  |(refine callP0 rfl ?_)
  |(refine callD0 rfl ?_)
  | fail)
 exact end_a rfl rfl rfl (lenB rfl) (lenE rfl)
set_option maxHeartbeats 4000000 in
theorem do_store {room lease : Int} {bl : List Blob} {en : List Entry} {e : Ev} (h : DoOk room bl en e) (hk : ckEv e = 0) (hn : ¬ e.2.1 < newestV bl en) (h1 : e.1 = 6) : DoF room lease bl en e (actV room lease bl en e) := by
 have e0 : actV room lease bl en e = ((storeV lease bl en e.2.1 e.2.2.2.2.1 e.2.2.2.1).1,(storeV lease bl en e.2.1 e.2.2.2.2.1 e.2.2.2.1).2.1,(storeV lease bl en e.2.1 e.2.2.2.2.1 e.2.2.2.1).2.2.1,(storeV lease bl en e.2.1 e.2.2.2.2.1 e.2.2.2.1).2.2.2,.v .nil,0) := by rw [actV];simp [h1]
 rw [e0]
 clear e0
 have hc := checkEvent_f e h.hd
 have hP := store_f room lease bl en e h.hb h.hr h.he h.hre h.hd
 have hN := newest_f (room,lease,bl,en) h.hb h.he
 have hF := find_f (room,lease,bl,en) e.2.2.1 h.hb h.hr
 rw [hk] at hc
 have hm := storeV_rc (lease := lease) (bl := bl) (en := en) (at_ := e.2.1) (key := e.2.2.2.2.1) (ds := e.2.2.2.1)
 generalize storeV lease bl en e.2.1 e.2.2.2.2.1 e.2.2.2.1 = r at *
 obtain ⟨B,E,b,m⟩ := r
 dsimp only [rAnsM] at hP hm ⊢
 replace h := hide h
 replace hk := hide hk
 obtain ⟨kind,at_,dg,ds,key,size⟩ := e
 dsimp only at h1 hn hF
 subst h1
 refine FCall.of_ax low_cache_do ?_
 dsimp only [l_cache_do,aEv] at hc ⊢
 have d0 : decide ((0 : Int) = 0) = true := rfl
 have t1 : decide ((6 : Int) = 1) = false := rfl
 have t2 : decide ((6 : Int) = 2) = false := rfl
 have t3 : decide ((6 : Int) = 3) = false := rfl
 have t4 : decide ((6 : Int) = 4) = false := rfl
 have t5 : decide ((6 : Int) = 5) = false := rfl
 have t6 : decide ((6 : Int) = 6) = true := rfl
 have t7 : decide ((6 : Int) = 7) = false := rfl
 have t8 : decide ((6 : Int) = 8) = false := rfl
 refine srun_sound 300 _ _ _ _ ?_
 repeat' (first
  | (simp -implicitDefEqProofs only [*,addFp_wr,zr,Nat.reduceAdd,Nat.reduceSub,Nat.reduceMul,Nat.reduceLT,Nat.reduceLeDiff,Nat.reduceEqDiff,Nat.reduceBEq,reduceIte,reduceCtorEq,Int.reduceLE,Int.reduceLT,Int.reduceToNat,Int.reduceEq,Int.reduceNe])
  | ((first|apply zk0|apply zk1|apply zk2|apply zk3|apply zk4|apply zk5|apply zk6|apply zk7|apply zk8|apply zk9) <;> intro hc)
  |(refine callP0 rfl ?_)
  |(refine callD0 rfl ?_)
  |(refine cP (hc) ?_)
  |(refine cD (hc) ?_)
  |(refine cF (hc) ?_)
  |(refine cO (hc) ?_)
  | fail)
 refine gDC (tl := []) hN rfl rfl ?_
 clear hN
 generalize newestV bl en = nw at *
 have dn : decide (at_ < nw) = false := dcF hn
 replace hn := hide hn
 repeat' (first
  | (simp -implicitDefEqProofs only [*,addFp_wr,zr,Nat.reduceAdd,Nat.reduceSub,Nat.reduceMul,Nat.reduceLT,Nat.reduceLeDiff,Nat.reduceEqDiff,Nat.reduceBEq,reduceIte,reduceCtorEq,Int.reduceLE,Int.reduceLT,Int.reduceToNat,Int.reduceEq,Int.reduceNe])
  | ((first|apply zk0|apply zk1|apply zk2|apply zk3|apply zk4|apply zk5|apply zk6|apply zk7|apply zk8|apply zk9) <;> intro hc)
  |(refine callP0 rfl ?_)
  |(refine callD0 rfl ?_)
  | fail)
 refine gDC (tl := [.str dg]) hF rfl rfl ?_
 clear hF
 repeat' (first
  | (simp -implicitDefEqProofs only [*,addFp_wr,zr,Nat.reduceAdd,Nat.reduceSub,Nat.reduceMul,Nat.reduceLT,Nat.reduceLeDiff,Nat.reduceEqDiff,Nat.reduceBEq,reduceIte,reduceCtorEq,Int.reduceLE,Int.reduceLT,Int.reduceToNat,Int.reduceEq,Int.reduceNe])
  | ((first|apply zk0|apply zk1|apply zk2|apply zk3|apply zk4|apply zk5|apply zk6|apply zk7|apply zk8|apply zk9) <;> intro hc)
  |(refine callP0 rfl ?_)
  |(refine callD0 rfl ?_)
  | fail)
 rcases hm with rfl | ⟨l,rfl⟩
 ·refine gP hP 100001 1 [.f (.int .i64 room),.f (.int .i64 lease),.sl 80000 1 5 0 bl.length,.sl 81000 1 3 0 en.length] [] [aEv (6,at_,dg,ds,key,size)] ?_
  clear hP
  repeat' (first
   | (simp -implicitDefEqProofs only [*,addFp_wr,zr,Nat.reduceAdd,Nat.reduceSub,Nat.reduceMul,Nat.reduceLT,Nat.reduceLeDiff,Nat.reduceEqDiff,Nat.reduceBEq,reduceIte,reduceCtorEq,Int.reduceLE,Int.reduceLT,Int.reduceToNat,Int.reduceEq,Int.reduceNe])
   | ((first|apply zk0|apply zk1|apply zk2|apply zk3|apply zk4|apply zk5|apply zk6|apply zk7|apply zk8|apply zk9) <;> intro hc)
   |(refine callP0 rfl ?_)
   |(refine callD0 rfl ?_)
   | fail)
  exact end_a rfl rfl rfl (lenB rfl) (lenE rfl)
 ·dsimp only [rcS] at hP
  refine gP hP 100001 1 [.f (.int .i64 room),.f (.int .i64 lease),.sl 80000 1 5 0 bl.length,.sl 81000 1 3 0 en.length] [] [aEv (6,at_,dg,ds,key,size)] ?_
  clear hP
  repeat' (first
   | (simp -implicitDefEqProofs only [*,addFp_wr,zr,Nat.reduceAdd,Nat.reduceSub,Nat.reduceMul,Nat.reduceLT,Nat.reduceLeDiff,Nat.reduceEqDiff,Nat.reduceBEq,reduceIte,reduceCtorEq,Int.reduceLE,Int.reduceLT,Int.reduceToNat,Int.reduceEq,Int.reduceNe])
   | ((first|apply zk0|apply zk1|apply zk2|apply zk3|apply zk4|apply zk5|apply zk6|apply zk7|apply zk8|apply zk9) <;> intro hc)
   |(refine callP0 rfl ?_)
   |(refine callD0 rfl ?_)
   | fail)
  exact end_m (i3 := 2084) rfl rfl rfl rfl (lenB rfl) (lenE rfl)
set_option maxHeartbeats 4000000 in
theorem do_search {room lease : Int} {bl : List Blob} {en : List Entry} {e : Ev} (h : DoOk room bl en e) (hk : ckEv e = 0) (hn : ¬ e.2.1 < newestV bl en) (h1 : e.1 = 7) : DoF room lease bl en e (actV room lease bl en e) := by
 have e0 : actV room lease bl en e = ((searchV lease bl en e.2.1 e.2.2.2.2.1).1,(searchV lease bl en e.2.1 e.2.2.2.2.1).2.1,(searchV lease bl en e.2.1 e.2.2.2.2.1).2.2.1,(searchV lease bl en e.2.1 e.2.2.2.2.1).2.2.2,.v .nil,0) := by rw [actV];simp [h1]
 rw [e0]
 clear e0
 have hc := checkEvent_f e h.hd
 have hP := search_f room lease bl en e h.hb h.hr h.he h.hre h.hrf
 have hN := newest_f (room,lease,bl,en) h.hb h.he
 have hF := find_f (room,lease,bl,en) e.2.2.1 h.hb h.hr
 rw [hk] at hc
 have hm := searchV_rc (lease := lease) (bl := bl) (en := en) (at_ := e.2.1) (key := e.2.2.2.2.1)
 generalize searchV lease bl en e.2.1 e.2.2.2.2.1 = r at *
 obtain ⟨B,E,b,m⟩ := r
 dsimp only [rAnsM] at hP hm ⊢
 replace h := hide h
 replace hk := hide hk
 obtain ⟨kind,at_,dg,ds,key,size⟩ := e
 dsimp only at h1 hn hF
 subst h1
 refine FCall.of_ax low_cache_do ?_
 dsimp only [l_cache_do,aEv] at hc ⊢
 have d0 : decide ((0 : Int) = 0) = true := rfl
 have t1 : decide ((7 : Int) = 1) = false := rfl
 have t2 : decide ((7 : Int) = 2) = false := rfl
 have t3 : decide ((7 : Int) = 3) = false := rfl
 have t4 : decide ((7 : Int) = 4) = false := rfl
 have t5 : decide ((7 : Int) = 5) = false := rfl
 have t6 : decide ((7 : Int) = 6) = false := rfl
 have t7 : decide ((7 : Int) = 7) = true := rfl
 have t8 : decide ((7 : Int) = 8) = false := rfl
 refine srun_sound 300 _ _ _ _ ?_
 repeat' (first
  | (simp -implicitDefEqProofs only [*,addFp_wr,zr,Nat.reduceAdd,Nat.reduceSub,Nat.reduceMul,Nat.reduceLT,Nat.reduceLeDiff,Nat.reduceEqDiff,Nat.reduceBEq,reduceIte,reduceCtorEq,Int.reduceLE,Int.reduceLT,Int.reduceToNat,Int.reduceEq,Int.reduceNe])
  | ((first|apply zk0|apply zk1|apply zk2|apply zk3|apply zk4|apply zk5|apply zk6|apply zk7|apply zk8|apply zk9) <;> intro hc)
  |(refine callP0 rfl ?_)
  |(refine callD0 rfl ?_)
  |(refine cP (hc) ?_)
  |(refine cD (hc) ?_)
  |(refine cF (hc) ?_)
  |(refine cO (hc) ?_)
  | fail)
 refine gDC (tl := []) hN rfl rfl ?_
 clear hN
 generalize newestV bl en = nw at *
 have dn : decide (at_ < nw) = false := dcF hn
 replace hn := hide hn
 repeat' (first
  | (simp -implicitDefEqProofs only [*,addFp_wr,zr,Nat.reduceAdd,Nat.reduceSub,Nat.reduceMul,Nat.reduceLT,Nat.reduceLeDiff,Nat.reduceEqDiff,Nat.reduceBEq,reduceIte,reduceCtorEq,Int.reduceLE,Int.reduceLT,Int.reduceToNat,Int.reduceEq,Int.reduceNe])
  | ((first|apply zk0|apply zk1|apply zk2|apply zk3|apply zk4|apply zk5|apply zk6|apply zk7|apply zk8|apply zk9) <;> intro hc)
  |(refine callP0 rfl ?_)
  |(refine callD0 rfl ?_)
  | fail)
 refine gDC (tl := [.str dg]) hF rfl rfl ?_
 clear hF
 repeat' (first
  | (simp -implicitDefEqProofs only [*,addFp_wr,zr,Nat.reduceAdd,Nat.reduceSub,Nat.reduceMul,Nat.reduceLT,Nat.reduceLeDiff,Nat.reduceEqDiff,Nat.reduceBEq,reduceIte,reduceCtorEq,Int.reduceLE,Int.reduceLT,Int.reduceToNat,Int.reduceEq,Int.reduceNe])
  | ((first|apply zk0|apply zk1|apply zk2|apply zk3|apply zk4|apply zk5|apply zk6|apply zk7|apply zk8|apply zk9) <;> intro hc)
  |(refine callP0 rfl ?_)
  |(refine callD0 rfl ?_)
  | fail)
 rcases hm with rfl | ⟨l,rfl⟩
 ·refine gP hP 100001 1 [.f (.int .i64 room),.f (.int .i64 lease),.sl 80000 1 5 0 bl.length,.sl 81000 1 3 0 en.length] [] [aEv (7,at_,dg,ds,key,size)] ?_
  clear hP
  repeat' (first
   | (simp -implicitDefEqProofs only [*,addFp_wr,zr,Nat.reduceAdd,Nat.reduceSub,Nat.reduceMul,Nat.reduceLT,Nat.reduceLeDiff,Nat.reduceEqDiff,Nat.reduceBEq,reduceIte,reduceCtorEq,Int.reduceLE,Int.reduceLT,Int.reduceToNat,Int.reduceEq,Int.reduceNe])
   | ((first|apply zk0|apply zk1|apply zk2|apply zk3|apply zk4|apply zk5|apply zk6|apply zk7|apply zk8|apply zk9) <;> intro hc)
   |(refine callP0 rfl ?_)
   |(refine callD0 rfl ?_)
   | fail)
  exact end_a rfl rfl rfl (lenB rfl) (lenE rfl)
 ·dsimp only [rcS] at hP
  refine gP hP 100001 1 [.f (.int .i64 room),.f (.int .i64 lease),.sl 80000 1 5 0 bl.length,.sl 81000 1 3 0 en.length] [] [aEv (7,at_,dg,ds,key,size)] ?_
  clear hP
  repeat' (first
   | (simp -implicitDefEqProofs only [*,addFp_wr,zr,Nat.reduceAdd,Nat.reduceSub,Nat.reduceMul,Nat.reduceLT,Nat.reduceLeDiff,Nat.reduceEqDiff,Nat.reduceBEq,reduceIte,reduceCtorEq,Int.reduceLE,Int.reduceLT,Int.reduceToNat,Int.reduceEq,Int.reduceNe])
   | ((first|apply zk0|apply zk1|apply zk2|apply zk3|apply zk4|apply zk5|apply zk6|apply zk7|apply zk8|apply zk9) <;> intro hc)
   |(refine callP0 rfl ?_)
   |(refine callD0 rfl ?_)
   | fail)
  exact end_m (i3 := 2089) rfl rfl rfl rfl (lenB rfl) (lenE rfl)
end Go.Proofs.YtanhelgblnmdcaaDoor
