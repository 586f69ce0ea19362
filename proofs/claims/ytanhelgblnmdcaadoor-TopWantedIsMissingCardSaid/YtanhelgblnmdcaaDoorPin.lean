/-
  Events and answers; cache.pin. No statement of the seat is proved here; no conditions.
-/
import Derived.Test.YtanhelgblnmdcaaDoorTch
namespace Go.Proofs.YtanhelgblnmdcaaDoor
open Go.RowKit Go.Shelf
set_option linter.unusedVariables false
set_option linter.unusedSimpArgs false
set_option maxRecDepth 100000

abbrev Ev := Int × Int × ByteArray × List ByteArray × ByteArray × Int
def aEv (e : Ev) : AV := .agg [.f (.int .i64 e.1),.f (.int .i64 e.2.1),.f (.str e.2.2.1),.f (frStrs e.2.2.2.1),.f (.str e.2.2.2.2.1),.f (.int .i64 e.2.2.2.2.2)]
def rAns (b : Bool) (m g : FV) : RS := .agg [.v (.bool b),.v m,.v g]
section
variable {P : Program} {R : Env → Heap → Prop} {Λ : Lams} {k : List It} {env : Env} {H : Heap} {d j : Nat} {f : Operand} {args : List Operand} {g : Option (Nat × Bool)} {los : List LO} {dos : List DO} {acc : List Fp} {od : List Nat} {fid : FuncId} {rs : List RS} {room lease : Int} {bl : List Blob} {en : List Entry} {tl : List FV} {i1 v1 i2 v2 : Nat}
theorem fzs_fs {H : Heap} : ∀ l : List FV,FzsOk H (l.map .f) (l.map .f)
 | [] => trivial
 | x :: l => ⟨fz_f,fzs_fs l⟩
theorem gDC (hF : FRet P fid (aCache (room,lease,bl,en) :: tl.map .f) rs) (hfn : evA env f = .f (.fn (.func fid))) (ha : args.map (evA env) = .agg [.f (.int .i64 room),.f (.int .i64 lease),.sl i1 v1 5 0 bl.length,.sl i2 v2 3 0 en.length] :: tl.map .f)
  (h : srun P R 300 Λ (.dops dos (j + 1) (addFp j [i1,i2] (wrL d (nextSs 0 rs)) acc) :: k) (putE env (some d) (oneOrTup (putS d 0 rs))) (putHs d 0 rs H)) (h1 : cellsOf v1 (H i1) = some ((rowF fBlob bl).map .f) := by rfl) (h2 : cellsOf v2 (H i2) = some ((rowF fEntry en).map .f) := by rfl) (hg : gd g env = some true := by rfl) (hp : rs.all (RS.all FV.plain) = true := by first | rfl | (simp [RS.all,RC.all,FV.plain];done)) (hfree : Free d H := by first | exact free_0 | exact free_mk rfl | (repeat (first|exact free_0 | exact free_mk rfl | exact free_mk (by first | (simp;done) | fail) | refine free_upd rfl ?_ | refine free_kill ?_));first | done | fail) (hk : noConf acc od [i1,i2] (wrL d (nextSs 0 rs)) = true := by rfl) : Ax P R Λ (.dops (⟨some d,.call f args,g,od⟩ :: dos) j acc :: k) env H :=
 callDG [i1,i2] hg hF hfn (fun H2 hh => by rw [ha];exact ⟨fz_ownc (by rw [hh i1 (by simp)];exact h1) (by rw [hh i2 (by simp)];exact h2),fzs_fs tl⟩) hp hfree hk h
end
theorem end_st {H : Heap} {i1 v1 i2 v2 n m : Nat} {room lease : Int} {xs ys : List FV} {X : Nat × Option AObj} (hp : X = (1,some (.cells [.f (.int .i64 room),.f (.int .i64 lease),.sl i1 v1 5 0 n,.sl i2 v2 3 0 m]))) (h1 : cellsOf v1 (H i1) = some (xs.map .f)) (h2 : cellsOf v2 (H i2) = some (ys.map .f)) (l1 : n * 5 ≤ xs.length) (l2 : m * 3 ≤ ys.length) (hne : i1 ≠ i2) (hn1 : 100001 ≠ i1) (hn2 : 100001 ≠ i2) {r : AV} {l : List AV} {rs : List RS} (hr : r = oneOrTup l) (hrs : RsOk H rs l) (hid : idsS l = []) :
  ∃ l cs',r = oneOrTup l ∧ X = (1,some (.cells cs')) ∧ RcsOk H [.v (.int .i64 room),.v (.int .i64 lease),.own 5 n xs,.own 3 m ys] cs' ∧ RsOk H rs l ∧ (idsC cs' ++ idsS l).Nodup ∧ ¬100001 ∈ idsC cs' ++ idsS l :=
 ⟨l,_,hr,hp,⟨rfl,rfl,.inr ⟨i1,v1,rfl,h1,l1⟩,.inr ⟨i2,v2,rfl,h2,l2⟩,rfl⟩,hrs,by simp [idsC,hid,hne],by simp [idsC,hid,hn1,hn2]⟩
theorem end_a {H : Heap} {i1 v1 i2 v2 n m : Nat} {room lease fault : Int} {b : Bool} {mm gg : FV} {xs ys : List FV} {X : Nat × Option AObj} (hp : X = (1,some (.cells [.f (.int .i64 room),.f (.int .i64 lease),.sl i1 v1 5 0 n,.sl i2 v2 3 0 m]))) (h1 : cellsOf v1 (H i1) = some (xs.map .f)) (h2 : cellsOf v2 (H i2) = some (ys.map .f)) (l1 : n * 5 ≤ xs.length) (l2 : m * 3 ≤ ys.length) (hne : i1 ≠ i2 := by decide) (hn1 : 100001 ≠ i1 := by decide) (hn2 : 100001 ≠ i2 := by decide) :
  ∃ l cs',AV.tup [.agg [.f (.bool b),.f mm,.f gg],.f (.int .i64 fault)] = oneOrTup l ∧ X = (1,some (.cells cs')) ∧ RcsOk H [.v (.int .i64 room),.v (.int .i64 lease),.own 5 n xs,.own 3 m ys] cs' ∧ RsOk H [rAns b mm gg,.c (.v (.int .i64 fault))] l ∧ (idsC cs' ++ idsS l).Nodup ∧ ¬100001 ∈ idsC cs' ++ idsS l :=
 end_st hp h1 h2 l1 l2 hne hn1 hn2 (l := [.agg [.f (.bool b),.f mm,.f gg],.f (.int .i64 fault)]) rfl ⟨⟨rfl,rfl,rfl,rfl⟩,rfl,rfl⟩ rfl
theorem end_1 {H : Heap} {i1 v1 i2 v2 n m : Nat} {room lease : Int} {b : Bool} {mm gg : FV} {xs ys : List FV} {X : Nat × Option AObj} (hp : X = (1,some (.cells [.f (.int .i64 room),.f (.int .i64 lease),.sl i1 v1 5 0 n,.sl i2 v2 3 0 m]))) (h1 : cellsOf v1 (H i1) = some (xs.map .f)) (h2 : cellsOf v2 (H i2) = some (ys.map .f)) (l1 : n * 5 ≤ xs.length) (l2 : m * 3 ≤ ys.length) (hne : i1 ≠ i2 := by decide) (hn1 : 100001 ≠ i1 := by decide) (hn2 : 100001 ≠ i2 := by decide) :
  ∃ l cs',AV.agg [.f (.bool b),.f mm,.f gg] = oneOrTup l ∧ X = (1,some (.cells cs')) ∧ RcsOk H [.v (.int .i64 room),.v (.int .i64 lease),.own 5 n xs,.own 3 m ys] cs' ∧ RsOk H [rAns b mm gg] l ∧ (idsC cs' ++ idsS l).Nodup ∧ ¬100001 ∈ idsC cs' ++ idsS l :=
 end_st hp h1 h2 l1 l2 hne hn1 hn2 (l := [.agg [.f (.bool b),.f mm,.f gg]]) rfl ⟨⟨rfl,rfl,rfl,rfl⟩,rfl⟩ rfl
theorem lenB {bl : List Blob} {n : Nat} (h : bl.length = n) : n * 5 ≤ (rowF fBlob bl).length := by rw [row_len (sz := 5) (fun _ => rfl),h];exact Nat.le_refl _
theorem lenE {en : List Entry} {n : Nat} (h : en.length = n) : n * 3 ≤ (rowF fEntry en).length := by rw [row_len (sz := 3) (fun _ => rfl),h];exact Nat.le_refl _
def pinB (k : Int) (b : Blob) : Blob := (b.1,b.2.1,b.2.2.1,b.2.2.2.1,IntKind.i64.wrap (if k = 5 then b.2.2.2.2 - 1 else b.2.2.2.2 + 1))
def pinV (k : Int) (bl : List Blob) (d : ByteArray) : List Blob × Bool × Int := match bl[bIdx bl d]? with
 | some y => if hasB bl d then (if k = 5 then (if y.2.2.2.2 = 0 then (bl,false,0) else (bl.set (bIdx bl d) (pinB k y),true,0)) else if 3000 ≤ y.2.2.2.2 then (bl,false,16) else (bl.set (bIdx bl d) (pinB k y),true,0)) else (bl,false,0)
 | none => (bl,false,0)
set_option maxHeartbeats 2000000 in
theorem pin_f (room lease : Int) (bl : List Blob) (en : List Entry) (e : Ev) (hb : bl.length ≤ 1000000) (hr : Rising (fun b : Blob => b.1) bl) :
  FRetP Tryd.prog 28 [.v (.int .i64 room),.v (.int .i64 lease),.own 5 bl.length (rowF fBlob bl),.own 3 en.length (rowF fEntry en)] [] [aEv e]
   [.v (.int .i64 room),.v (.int .i64 lease),.own 5 bl.length (rowF fBlob (pinV e.1 bl e.2.2.1).1),.own 3 en.length (rowF fEntry en)] [rAns (pinV e.1 bl e.2.2.1).2.1 .nil .nil,.c (.v (.int .i64 (pinV e.1 bl e.2.2.1).2.2))] := by
 obtain ⟨kind,at_,dg,ds,key,size⟩ := e
 refine FCall.of_ax low_cache_pin ?_
 dsimp only [l_cache_pin,aEv,frStrs]
 have hF := find_f (room,lease,bl,en) dg hb hr
 have hR := hide hr
 clear hr
 refine srun_sound 300 _ _ _ _ ?_
 repeat' (first
  | (simp -implicitDefEqProofs only [*,zr,Nat.reduceAdd,Nat.reduceSub,Nat.reduceMul,Nat.reduceLT,Nat.reduceLeDiff,Nat.reduceEqDiff,Nat.reduceBEq,reduceIte,reduceCtorEq,Int.reduceLE,Int.reduceLT,Int.reduceToNat,Int.reduceEq,Int.reduceNe])
  | ((first|apply zk0|apply zk1|apply zk2|apply zk3|apply zk4|apply zk5|apply zk6|apply zk7|apply zk8|apply zk9) <;> intro hc)
  |(refine callP0 rfl ?_)
  |(refine callD0 rfl ?_)
  | fail)
 refine gDC (tl := [.str dg]) hF rfl rfl ?_
 clear hF
 cases hh : hasB bl dg
 ·have e1 : pinV kind bl dg = (bl,false,0) := by
   unfold pinV
   split
   ·rw [hh];rfl
   ·rfl
  rw [e1]
  repeat' (first
   | (simp -implicitDefEqProofs only [*,zr,Nat.reduceAdd,Nat.reduceSub,Nat.reduceMul,Nat.reduceLT,Nat.reduceLeDiff,Nat.reduceEqDiff,Nat.reduceBEq,reduceIte,reduceCtorEq,Int.reduceLE,Int.reduceLT,Int.reduceToNat,Int.reduceEq,Int.reduceNe])
   | ((first|apply zk0|apply zk1|apply zk2|apply zk3|apply zk4|apply zk5|apply zk6|apply zk7|apply zk8|apply zk9) <;> intro hc)
   |(refine callP0 rfl ?_)
   |(refine callD0 rfl ?_)
   | fail)
  exact end_a rfl rfl rfl (lenB rfl) (lenE rfl)
 ·obtain ⟨y,hy,hyd⟩ := hasB_at hR.out hh
  replace hyd := hide hyd
  obtain ⟨i,hi⟩ : ∃ i,bIdx bl dg = i := ⟨_,rfl⟩
  have hP : pinV kind bl dg = if kind = 5 then (if y.2.2.2.2 = 0 then (bl,false,0) else (bl.set i (pinB kind y),true,0)) else if 3000 ≤ y.2.2.2.2 then (bl,false,16) else (bl.set i (pinB kind y),true,0) := by
   unfold pinV
   rw [hi] at hy ⊢
   rw [hy,hh];rfl
  rw [hi] at hy ⊢
  have hlt2 := (List.getElem?_eq_some_iff.1 hy).1
  have hL := lt_t hlt2
  have q0 : (rowF fBlob bl).length = bl.length * 5 := row_len (sz := 5) (fun _ => rfl)
  have p4 : (i * 5 + 4 + 1 ≤ bl.length * 5) = True := by rw [eq_iff_iff,iff_true];omega
  have c4 := row_cell (enc := fBlob) (sz := 5) (j := 4) (fun _ => rfl) hy rfl
  rw [hP]
  replace hP := hide hP
  by_cases hk : kind = 5
  ·have dk : decide (kind = 5) = true := dcT hk
   rw [if_pos hk]
   by_cases hz : y.2.2.2.2 = 0
   ·have dz : decide (y.2.2.2.2 = 0) = true := dcT hz
    rw [if_pos hz]
    replace hz := hide hz
    replace hk := hide hk
    repeat' (first
     | (simp -implicitDefEqProofs only [*,zr,Nat.reduceAdd,Nat.reduceSub,Nat.reduceMul,Nat.reduceLT,Nat.reduceLeDiff,Nat.reduceEqDiff,Nat.reduceBEq,reduceIte,reduceCtorEq,Int.reduceLE,Int.reduceLT,Int.reduceToNat,Int.reduceEq,Int.reduceNe])
     | ((first|apply zk0|apply zk1|apply zk2|apply zk3|apply zk4|apply zk5|apply zk6|apply zk7|apply zk8|apply zk9) <;> intro hc)
     |(refine callP0 rfl ?_)
     |(refine callD0 rfl ?_)
     | fail)
    exact end_a rfl rfl rfl (lenB rfl) (lenE rfl)
   ·have dz : decide (y.2.2.2.2 = 0) = false := dcF hz
    have e1 := row_set1 (enc := fBlob) (sz := 5) (j := 4) (y := pinB kind y) (v := .int .i64 (IntKind.i64.wrap (y.2.2.2.2 - 1))) (fun _ => rfl) hy (by omega) (by rw [pinB,if_pos hk];rfl)
    rw [splice_1] at e1
    rw [if_neg hz]
    replace hz := hide hz
    replace hk := hide hk
    repeat' (first
     | (simp -implicitDefEqProofs only [*,zr,Nat.reduceAdd,Nat.reduceSub,Nat.reduceMul,Nat.reduceLT,Nat.reduceLeDiff,Nat.reduceEqDiff,Nat.reduceBEq,reduceIte,reduceCtorEq,Int.reduceLE,Int.reduceLT,Int.reduceToNat,Int.reduceEq,Int.reduceNe])
     | ((first|apply zk0|apply zk1|apply zk2|apply zk3|apply zk4|apply zk5|apply zk6|apply zk7|apply zk8|apply zk9) <;> intro hc)
     |(refine callP0 rfl ?_)
     |(refine callD0 rfl ?_)
     | fail)
    exact end_a rfl rfl rfl (lenB List.length_set) (lenE rfl)
  ·have dk : decide (kind = 5) = false := dcF hk
   rw [if_neg hk]
   by_cases hz : 3000 ≤ y.2.2.2.2
   ·have dz : decide (y.2.2.2.2 ≥ 3000) = true := dcT hz
    rw [if_pos hz]
    replace hz := hide hz
    replace hk := hide hk
    repeat' (first
     | (simp -implicitDefEqProofs only [*,zr,Nat.reduceAdd,Nat.reduceSub,Nat.reduceMul,Nat.reduceLT,Nat.reduceLeDiff,Nat.reduceEqDiff,Nat.reduceBEq,reduceIte,reduceCtorEq,Int.reduceLE,Int.reduceLT,Int.reduceToNat,Int.reduceEq,Int.reduceNe])
     | ((first|apply zk0|apply zk1|apply zk2|apply zk3|apply zk4|apply zk5|apply zk6|apply zk7|apply zk8|apply zk9) <;> intro hc)
     |(refine callP0 rfl ?_)
     |(refine callD0 rfl ?_)
     | fail)
    exact end_a rfl rfl rfl (lenB rfl) (lenE rfl)
   ·have dz : decide (y.2.2.2.2 ≥ 3000) = false := dcF hz
    have e1 := row_set1 (enc := fBlob) (sz := 5) (j := 4) (y := pinB kind y) (v := .int .i64 (IntKind.i64.wrap (y.2.2.2.2 + 1))) (fun _ => rfl) hy (by omega) (by rw [pinB,if_neg hk];rfl)
    rw [splice_1] at e1
    rw [if_neg hz]
    replace hz := hide hz
    replace hk := hide hk
    repeat' (first
     | (simp -implicitDefEqProofs only [*,zr,Nat.reduceAdd,Nat.reduceSub,Nat.reduceMul,Nat.reduceLT,Nat.reduceLeDiff,Nat.reduceEqDiff,Nat.reduceBEq,reduceIte,reduceCtorEq,Int.reduceLE,Int.reduceLT,Int.reduceToNat,Int.reduceEq,Int.reduceNe])
     | ((first|apply zk0|apply zk1|apply zk2|apply zk3|apply zk4|apply zk5|apply zk6|apply zk7|apply zk8|apply zk9) <;> intro hc)
     |(refine callP0 rfl ?_)
     |(refine callD0 rfl ?_)
     | fail)
    exact end_a rfl rfl rfl (lenB List.length_set) (lenE rfl)
end Go.Proofs.YtanhelgblnmdcaaDoor
