/-
  ReadQuery, walked. No statement of the seat is proved here; no conditions.
-/
import Derived.Test.YtagkdifaldikgaaGreatDoorQtA
import Derived.Test.YtagkdifaldikgaaGreatDoorQtE
import Derived.Test.YtagkdifaldikgaaGreatDoorQcW
import Derived.Test.YtagkdifaldikgaaGreatDoorQcN
import Derived.Test.YtagkdifaldikgaaGreatDoorQdK
import Derived.Test.YtagkdifaldikgaaGreatDoorGrH
namespace Go.Proofs.YtagkdifaldikgaaGreatDoor
open Go.RowKit Go.Shelf
set_option linter.unusedVariables false
set_option linter.unusedSimpArgs false
set_option maxRecDepth 100000

def BadR (f : Int) : AV := .tup [.agg [.f (.int .i64 0),.f (.str ⟨#[]⟩),.f (.int .i64 0),.f .nil],.any,.f (.int .i64 f)]
theorem bad_of {f : FuncId} {args : List AV} {k : Int} (h : FRet Tryz.prog f args [.agg [.v (.int .i64 0),.v (.str ⟨#[]⟩),.v (.int .i64 0),.v .nil],.c (.v (.int .i64 0)),.c (.v (.int .i64 k))]) : FCall Tryz.prog f args H0 (fun r _ => r = BadR k) := by
 refine ⟨h.1,fun G Z w vs h1 h2 h3 => (h.2 G Z w vs h1 h2 h3).mono fun e w' ⟨v,r,H',G',Z',e1,⟨l,e2,hl,_⟩,st,hh,hr⟩ => ?_⟩
 match l,hl with
 | [.agg cs,x,y],⟨k1,k2,k3,_⟩ =>
  obtain rfl : x = .f (.int .i64 0) := k2
  obtain rfl : y = .f (.int .i64 k) := k3
  have k4 := rcs_v (xs := [.int .i64 0,.str ⟨#[]⟩,.int .i64 0,.nil]) k1
  subst k4 e2
  refine ⟨v,BadR k,H',G',Z',e1,rfl,st,hh,?_⟩
  cases hr with
  | tup _ us hsz hr =>
   refine .tup _ us hsz fun j a u ha hu => ?_
   rcases j with _ | _ | _ | j
   ·exact hr 0 a u ha hu
   ·obtain rfl := Option.some.inj ha;exact .any _
   ·exact hr 2 a u ha hu
   ·simp at ha
theorem read_long (t : ByteArray) (h : 2000 < t.size) (ht : (t.size : Int) ≤ 140737488355328) : FCall Tryz.prog 5 [.f (.str t)] H0 (fun r _ => r = BadR 2) := by
 refine bad_of (FCall.of_ax low_graph_ReadQuery ?_)
 dsimp only [l_graph_ReadQuery]
 have d1 : decide ((2000 : Int) < (t.size : Int)) = true := dcT (by omega)
 have d2 : decide ((t.size : Int) > 2000) = true := d1
 replace h := hide h
 refine srun_sound 300 _ _ _ _ ?_
 repeat' (first
  | (simp -implicitDefEqProofs only [*,zr,Nat.reduceAdd,Nat.reduceSub,Nat.reduceMul,Nat.reduceLT,Nat.reduceLeDiff,Nat.reduceEqDiff,Nat.reduceBEq,reduceIte,reduceCtorEq,Int.reduceLE,Int.reduceLT,Int.reduceToNat,Int.reduceEq,Int.reduceNe])
  | ((first|apply zk0|apply zk1|apply zk2|apply zk3|apply zk4|apply zk5|apply zk6|apply zk7|apply zk8|apply zk9) <;> intro hc)
  |(refine callP0 rfl ?_)
  |(refine callD0 rfl ?_)
  | fail)
 exact ⟨[.agg _,_,_],rfl,⟨⟨rfl,rfl,rfl,rfl,rfl⟩,rfl,rfl,rfl⟩,List.nodup_nil⟩
theorem rd_pure (t : ByteArray) : ∀ a ∈ [AV.f (.str t),AV.f (.int .i64 0)],a.pure = true := fun a ha => by
 simp only [List.mem_cons,List.not_mem_nil,or_false] at ha
 rcases ha with rfl | rfl <;> rfl
theorem read_wrong (t : ByteArray) (h : t.size ≤ 2000) (hW : FCall Tryz.prog 10 [.ptr 100001 1 0] (Hrd t 0) (fun r H' => r = wrongR ∧ H' = upd H0 100001 (1,none))) : FCall Tryz.prog 5 [.f (.str t)] H0 (fun r _ => r = BadR 10) := by
 refine FCall.of_ax low_graph_ReadQuery ?_
 dsimp only [l_graph_ReadQuery,wrongR] at hW ⊢
 have d1 : decide ((2000 : Int) < (t.size : Int)) = false := dcF (by omega)
 have d2 : decide ((t.size : Int) > 2000) = false := d1
 replace h := hide h
 replace hW := hide hW
 refine srun_sound 300 _ _ _ _ ?_
 repeat' (first
  | (simp -implicitDefEqProofs only [*,zr,Nat.reduceAdd,Nat.reduceSub,Nat.reduceMul,Nat.reduceLT,Nat.reduceLeDiff,Nat.reduceEqDiff,Nat.reduceBEq,reduceIte,reduceCtorEq,Int.reduceLE,Int.reduceLT,Int.reduceToNat,Int.reduceEq,Int.reduceNe])
  | ((first|apply zk0|apply zk1|apply zk2|apply zk3|apply zk4|apply zk5|apply zk6|apply zk7|apply zk8|apply zk9) <;> intro hc)
  |(refine callP0 rfl ?_)
  |(refine callD0 rfl ?_)
  | fail)
 refine gGone (m := 300) hW.out 16 1 ?_ (rd_pure t)
 repeat' (first
  | (simp -implicitDefEqProofs only [*,zr,Nat.reduceAdd,Nat.reduceSub,Nat.reduceMul,Nat.reduceLT,Nat.reduceLeDiff,Nat.reduceEqDiff,Nat.reduceBEq,reduceIte,reduceCtorEq,Int.reduceLE,Int.reduceLT,Int.reduceToNat,Int.reduceEq,Int.reduceNe])
  | ((first|apply zk0|apply zk1|apply zk2|apply zk3|apply zk4|apply zk5|apply zk6|apply zk7|apply zk8|apply zk9) <;> intro hc)
  |(refine callP0 rfl ?_)
  |(refine callD0 rfl ?_)
  | fail)
 rfl
theorem read_ok (t : ByteArray) (h : t.size ≤ 2000) {Q : QT} (hW : FCall Tryz.prog 10 [.ptr 100001 1 0] (Hrd t 0) (fun r H' => r = .tup [.agg ((encQ Q).map .f),.f (.int .i64 0),.f (.bool true)] ∧ H' = upd H0 100001 (1,none))) (hb : QB Q) (hc : ckTop Q = 0) :
  FRet Tryz.prog 5 [.f (.str t)] [.agg (rcQ Q),.c (.v (.int .i64 0)),.c (.v (.int .i64 0))] := by
 have kC := CheckQuery_f Q hb
 rw [hc] at kC
 clear hc hb
 obtain ⟨k,s,n,ps⟩ := Q
 refine FCall.of_ax low_graph_ReadQuery ?_
 dsimp only [l_graph_ReadQuery,rcQ,aQ,encQ,List.map] at hW kC ⊢
 have d1 : decide ((2000 : Int) < (t.size : Int)) = false := dcF (by omega)
 have d2 : decide ((t.size : Int) > 2000) = false := d1
 replace h := hide h
 replace hW := hide hW
 refine srun_sound 300 _ _ _ _ ?_
 repeat' (first
  | (simp -implicitDefEqProofs only [*,zr,Nat.reduceAdd,Nat.reduceSub,Nat.reduceMul,Nat.reduceLT,Nat.reduceLeDiff,Nat.reduceEqDiff,Nat.reduceBEq,reduceIte,reduceCtorEq,Int.reduceLE,Int.reduceLT,Int.reduceToNat,Int.reduceEq,Int.reduceNe])
  | ((first|apply zk0|apply zk1|apply zk2|apply zk3|apply zk4|apply zk5|apply zk6|apply zk7|apply zk8|apply zk9) <;> intro hc)
  |(refine callP0 rfl ?_)
  |(refine callD0 rfl ?_)
  | fail)
 refine gGone (m := 300) hW.out 16 1 ?_ (rd_pure t)
 repeat' (first
  | (simp -implicitDefEqProofs only [*,zr,Nat.reduceAdd,Nat.reduceSub,Nat.reduceMul,Nat.reduceLT,Nat.reduceLeDiff,Nat.reduceEqDiff,Nat.reduceBEq,reduceIte,reduceCtorEq,Int.reduceLE,Int.reduceLT,Int.reduceToNat,Int.reduceEq,Int.reduceNe])
  | ((first|apply zk0|apply zk1|apply zk2|apply zk3|apply zk4|apply zk5|apply zk6|apply zk7|apply zk8|apply zk9) <;> intro hc)
  |(refine callP0 rfl ?_)
  |(refine callD0 rfl ?_)
  |(refine cP (kC) ?_)
  |(refine cD (kC) ?_)
  |(refine cF (kC) ?_)
  | fail)
 exact ⟨[.agg _,_,_],rfl,⟨⟨rfl,rfl,rfl,rfl,rfl⟩,rfl,rfl,rfl⟩,List.nodup_nil⟩
theorem read_ck (t : ByteArray) (h : t.size ≤ 2000) {Q : QT} (hW : FCall Tryz.prog 10 [.ptr 100001 1 0] (Hrd t 0) (fun r H' => r = .tup [.agg ((encQ Q).map .f),.f (.int .i64 0),.f (.bool true)] ∧ H' = upd H0 100001 (1,none))) (hb : QB Q) {c : Int} (hc : ckTop Q = c) (hne : c ≠ 0) :
  FCall Tryz.prog 5 [.f (.str t)] H0 (fun r _ => r = BadR c) := by
 have kC := CheckQuery_f Q hb
 rw [hc] at kC
 clear hc hb
 obtain ⟨k,s,n,ps⟩ := Q
 refine bad_of (FCall.of_ax low_graph_ReadQuery ?_)
 dsimp only [l_graph_ReadQuery,rcQ,aQ,encQ,List.map] at hW kC ⊢
 have d1 : decide ((2000 : Int) < (t.size : Int)) = false := dcF (by omega)
 have d2 : decide ((t.size : Int) > 2000) = false := d1
 have d3 : decide (c = 0) = false := dcF hne
 replace h := hide h
 replace hW := hide hW
 replace hne := hide hne
 refine srun_sound 300 _ _ _ _ ?_
 repeat' (first
  | (simp -implicitDefEqProofs only [*,zr,Nat.reduceAdd,Nat.reduceSub,Nat.reduceMul,Nat.reduceLT,Nat.reduceLeDiff,Nat.reduceEqDiff,Nat.reduceBEq,reduceIte,reduceCtorEq,Int.reduceLE,Int.reduceLT,Int.reduceToNat,Int.reduceEq,Int.reduceNe])
  | ((first|apply zk0|apply zk1|apply zk2|apply zk3|apply zk4|apply zk5|apply zk6|apply zk7|apply zk8|apply zk9) <;> intro hc)
  |(refine callP0 rfl ?_)
  |(refine callD0 rfl ?_)
  | fail)
 refine gGone (m := 300) hW.out 16 1 ?_ (rd_pure t)
 repeat' (first
  | (simp -implicitDefEqProofs only [*,zr,Nat.reduceAdd,Nat.reduceSub,Nat.reduceMul,Nat.reduceLT,Nat.reduceLeDiff,Nat.reduceEqDiff,Nat.reduceBEq,reduceIte,reduceCtorEq,Int.reduceLE,Int.reduceLT,Int.reduceToNat,Int.reduceEq,Int.reduceNe])
  | ((first|apply zk0|apply zk1|apply zk2|apply zk3|apply zk4|apply zk5|apply zk6|apply zk7|apply zk8|apply zk9) <;> intro hc)
  |(refine callP0 rfl ?_)
  |(refine callD0 rfl ?_)
  |(refine cP (kC) ?_)
  |(refine cD (kC) ?_)
  |(refine cF (kC) ?_)
  | fail)
 exact ⟨[.agg _,_,_],rfl,⟨⟨rfl,rfl,rfl,rfl,rfl⟩,rfl,rfl,rfl⟩,List.nodup_nil⟩
inductive ReadV (t : ByteArray) : Prop
 | bad (f : Int) (h : f ≠ 0) (hF : FCall Tryz.prog 5 [.f (.str t)] H0 (fun r _ => r = BadR f)) : ReadV t
 | good (Q : QT) (hF : FRet Tryz.prog 5 [.f (.str t)] [.agg (rcQ Q),.c (.v (.int .i64 0)),.c (.v (.int .i64 0))]) (hb : QB Q) (hn : cnQ Q ≤ 2000) (hc : ckTop Q = 0) : ReadV t
theorem read_v (t : ByteArray) (ht : (t.size : Int) ≤ 140737488355328) : ReadV t := by
 by_cases h : t.size ≤ 2000
 case neg => exact .bad 2 (by decide) (read_long t (by omega) ht)
 by_cases hp : ∃ n Q l,pq n .sum t.data.toList = some (Q,l)
 ·obtain ⟨n,Q,l,hp⟩ := hp
  have hs := pq_suf n _ _ _ _ hp
  obtain ⟨b,hb,_,hl⟩ := suf_at (t := t) (a := 0) (Nat.zero_le _) (by rw [List.drop_zero];exact hs)
  have hS := (rdc t ht n).sum 0 (Nat.zero_le _) b hb Q (by rw [List.drop_zero,hp,hl])
  by_cases hn : nxW t b = ⟨#[]⟩
  ·have hW := whole_ok t ht hb hS hn
   have hlen : t.data.toList.length = t.size := by simp
   have hbd : QB Q := pq_bd n _ _ _ _ hp (by omega) trivial
   have hcn : cnQ Q ≤ 2000 := by
    have h1 : cnQ Q + l.length ≤ cnL .sum + t.data.toList.length := pq_cn n _ _ _ _ hp
    have h2 : cnL .sum = 0 := rfl
    have h3 : t.data.toList.length = t.size := by simp
    omega
   by_cases hc : ckTop Q = 0
   ·exact .good Q (read_ok t h hW hbd hc) hbd hcn hc
   ·exact .bad _ hc (read_ck t h hW hbd rfl hc)
  ·exact .bad 10 (by decide) (read_wrong t h (whole_rest t ht hb hS hn))
 ·refine .bad 10 (by decide) (read_wrong t h (whole_no t ((pdc t ht (3 * t.size + 3)).sum 0 (Nat.zero_le _) (by omega) ?_)))
  rw [List.drop_zero]
  cases h1 : pq (3 * t.size + 3) .sum t.data.toList with
  | none => rfl
  | some x => exact absurd ⟨_,x.1,x.2,h1⟩ hp
theorem ckTop_ck {q : QT} (h : ckTop q = 0) : ckQ q = 0 := by
 unfold ckTop at h
 split at h
 ·cases h
 ·exact h
theorem read_text (q : QT) (hb : QB q) (hc : ckTop q = 0) (hl : (txQ q).length ≤ 2000) : FRet Tryz.prog 5 [.f (.str (txB q))] [.agg (rcQ q),.c (.v (.int .i64 0)),.c (.v (.int .i64 0))] := by
 have hsz := tx_size q
 have ht : ((txB q).size : Int) ≤ 140737488355328 := by omega
 obtain ⟨n,hp⟩ := rd_text wd (ckTop_ck hc)
 have hd : (txB q).data.toList = txQ q := rfl
 have he : (txB q).data.toList.drop (txB q).size = [] := List.drop_eq_nil_of_le (by rw [hd,hsz];exact Nat.le_refl _)
 have hS := (rdc (txB q) ht n).sum 0 (Nat.zero_le _) (txB q).size (Nat.le_refl _) q (by rw [List.drop_zero,he,hd];exact hp)
 have hn : nxW (txB q) (txB q).size = ⟨#[]⟩ := (nx_sign _ _ _).2 (by rw [he];rfl)
 exact read_ok (txB q) (by omega) (whole_ok (txB q) ht (Nat.le_refl _) hS hn) hb hc
end Go.Proofs.YtagkdifaldikgaaGreatDoor
namespace Go.Proofs.YtagkdifaldikgaaGreatDoor
open Go.RowKit Go.Shelf
set_option linter.unusedVariables false
set_option linter.unusedSimpArgs false

structure OInv (n : Nat) (D : List (List Nat)) (s : OSt) : Prop where
 nd : s.out.Nodup
 dn : ∀ i,i < n → s.done[i]? = some (decide (i ∈ s.out))
 lf : ∀ i,i < n → s.left.getD i 0 = ((D.getD i []).length : Int) - ((s.out.map fun u => (D.getD i []).count u).sum : Nat)
 bf : ∀ (k : Nat) i,s.out[k]? = some i → ∀ d ∈ D.getD i [],d ∈ s.out.take k
end Go.Proofs.YtagkdifaldikgaaGreatDoor
namespace Go.Proofs.YtagkdifaldikgaaGreatDoor
open Go.RowKit Go.Shelf
set_option linter.unusedVariables false
set_option linter.unusedSimpArgs false
set_option maxRecDepth 100000

def ndA : Node := (⟨#[47,47,58,97]⟩,⟨#[107]⟩,[],[],[],0)
theorem treeErr_A : treeErr [ndA] = 0 := by decide
theorem orderOf_A : orderOf [ndA] = some [0] := by decide
theorem bound_A : GBound [ndA] := ⟨by decide,fun n hn => by
 rw [List.mem_singleton.1 hn]
 exact ⟨by decide,by decide,(fun d hd => by cases hd),by decide,by decide,(fun d hd => by cases hd)⟩⟩
theorem awake_f : FRet Tryz.prog 7 [] [.c (.v (.bool true))] := by
 have hO := Order_f [ndA] bound_A
 rw [treeErr_A,orderOf_A,if_pos rfl] at hO
 change FRet Tryz.prog 11 [.f (frNodes [ndA])] [.c (.v (frStrs [⟨#[47,47,58,97]⟩])),.c (.v (.int .i64 0))] at hO
 refine FCall.of_ax low_law4_awake ?_
 dsimp only [l_law4_awake]
 refine srun_sound 300 _ _ _ _ ?_
 repeat' (first
  | (simp -implicitDefEqProofs only [*,zr,Nat.reduceAdd,Nat.reduceSub,Nat.reduceMul,Nat.reduceLT,Nat.reduceLeDiff,Nat.reduceEqDiff,Nat.reduceBEq,reduceIte,reduceCtorEq,Int.reduceLE,Int.reduceLT,Int.reduceToNat,Int.reduceEq,Int.reduceNe])
  | ((first|apply zk0|apply zk1|apply zk2|apply zk3|apply zk4|apply zk5|apply zk6|apply zk7|apply zk8|apply zk9) <;> intro hc)
  |(refine callP0 rfl ?_)
  |(refine callD0 rfl ?_)
  | fail)
 refine ax_weakA [] (nw := []) (n := 22) (el := [(5,.sl 5 1 6 0 1)]) (hl := [(5,1,.cells ((fNode ndA).map .f))]) rfl ?_ ?_
 ·refine wk_i ?_ ?_ <;> simp only [fNode,ndA,frStrs,so_ff',zw,Nat.reduceEqDiff,Nat.reduceBEq,Nat.reduceLT,Nat.reduceLeDiff,reduceIte,reduceCtorEq]
  exact ⟨_,rfl⟩
 refine ax_weakA [] (nw := []) (n := 22) (el := [(5,.f (frNodes [ndA]))]) (hl := []) rfl ?_ ?_
 ·refine ⟨rfl,small_mk rfl,rfl,rfl,⟨rfl,rfl,rfl,rfl,rfl⟩,⟨by decide,?_,trivial⟩,trivial⟩
  exact so_sl rfl rfl rfl (fun x hx => by rw [List.mem_singleton.1 hx];rfl) (by simp)
 have d1 : decide (((1 : Nat) : Int) = 1) = true := rfl
 repeat' (first
  | (simp -implicitDefEqProofs only [*,frStrs,zr,Nat.reduceAdd,Nat.reduceSub,Nat.reduceMul,Nat.reduceLT,Nat.reduceLeDiff,Nat.reduceEqDiff,Nat.reduceBEq,reduceIte,reduceCtorEq,Int.reduceLE,Int.reduceLT,Int.reduceToNat,Int.reduceEq,Int.reduceNe])
  | ((first|apply zk0|apply zk1|apply zk2|apply zk3|apply zk4|apply zk5|apply zk6|apply zk7|apply zk8|apply zk9) <;> intro hc)
  |(refine callP0 rfl ?_)
  |(refine callD0 rfl ?_)
  |(refine cP (hO) ?_)
  |(refine cD (hO) ?_)
  |(refine cF (hO) ?_)
  | fail)
 exact ret_ve rfl
end Go.Proofs.YtagkdifaldikgaaGreatDoor
