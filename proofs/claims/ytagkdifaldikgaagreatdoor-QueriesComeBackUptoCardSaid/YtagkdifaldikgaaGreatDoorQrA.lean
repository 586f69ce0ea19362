/-
  Queries: data, sizes, checks. No statement of the seat is proved here; no conditions.
-/
import Derived.Test.YtagkdifaldikgaaGreatDoorGrH
namespace Go.Proofs.YtagkdifaldikgaaGreatDoor
open Go.RowKit Go.Shelf
set_option linter.unusedVariables false
set_option linter.unusedSimpArgs false
set_option maxRecDepth 100000

theorem dcT {p : Prop} [Decidable p] (h : p) : decide p = true := decide_eq_true h
theorem dcF {p : Prop} [Decidable p] (h : ¬ p) : decide p = false := decide_eq_false h
inductive QT where
 | mk (k : Int) (t : ByteArray) (n : Int) (ps : List QT)
mutual
def encQ : QT → List FV
 | .mk k t n ps => [.int .i64 k,.str t,.int .i64 n,.fr 4 (encQs ps)]
def encQs : List QT → List (List FV)
 | [] => []
 | p :: ps => encQ p :: encQs ps
end
theorem encQs_at : ∀ {ps : List QT} {s : Nat} {p : QT},ps[s]? = some p → (encQs ps)[s]? = some (encQ p)
 | [],s,p,h => by simp at h
 | q :: ps,0,p,h => by simp at h;subst h;simp [encQs]
 | q :: ps,s + 1,p,h => by
  rw [encQs,List.getElem?_cons_succ]
  exact encQs_at (by simpa using h)
theorem encQs_len : ∀ ps : List QT,(encQs ps).length = ps.length
 | [] => rfl
 | p :: ps => by rw [encQs,List.length_cons,List.length_cons,encQs_len ps]
theorem QT.ind {motive : QT → Prop} (h : ∀ k t n ps,(∀ p ∈ ps,motive p) → motive (.mk k t n ps)) : ∀ q,motive q
 | .mk k t n ps => h k t n ps fun p hp => QT.ind h p
termination_by q => SizeOf.sizeOf q
decreasing_by
 have := List.sizeOf_lt_of_mem hp
 simp only [QT.mk.sizeOf_spec]
 omega
def QOk (t : ByteArray) (m : Nat) : Prop := (t.size : Int) ≤ 140737488355328 ∧ (m : Int) ≤ 9223372036854775807
mutual
def QB : QT → Prop
 | .mk _ t _ ps => QOk t ps.length ∧ QBs ps
def QBs : List QT → Prop
 | [] => True
 | p :: ps => QB p ∧ QBs ps
end
theorem QBs_mem : ∀ {ps : List QT},QBs ps → ∀ p ∈ ps,QB p
 | [],_,p,h => by simp at h
 | q :: ps,hb,p,h => by
  rw [QBs] at hb
  rcases List.mem_cons.1 h with rfl | h
  ·exact hb.1
  ·exact QBs_mem hb.2 p h
def aQ (q : QT) : AV := .agg ((encQ q).map .f)
def szStep (a x : Int × Int) : Int × Int := (IntKind.i64.wrap (a.1 + x.1),max a.2 (IntKind.i64.wrap (x.2 + 1)))
mutual
def sizeQ : QT → Int × Int
 | .mk _ _ _ ps => (sizesQ ps).foldl szStep (1,0)
def sizesQ : List QT → List (Int × Int)
 | [] => []
 | p :: ps => sizeQ p :: sizesQ ps
end
theorem sizesQ_at : ∀ {ps : List QT} {s : Nat} {p : QT},ps[s]? = some p → (sizesQ ps)[s]? = some (sizeQ p)
 | [],s,p,h => by simp at h
 | q :: ps,0,p,h => by simp at h;subst h;simp [sizesQ]
 | q :: ps,s + 1,p,h => by
  rw [sizesQ,List.getElem?_cons_succ]
  exact sizesQ_at (by simpa using h)
theorem sizesQ_len : ∀ ps : List QT,(sizesQ ps).length = ps.length
 | [] => rfl
 | p :: ps => by rw [sizesQ,List.length_cons,List.length_cons,sizesQ_len ps]
set_option maxHeartbeats 1000000 in
theorem size_f (q : QT) (hb : QB q) : FRet Tryz.prog 12 [aQ q] [.c (.v (.int .i64 (sizeQ q).1)),.c (.v (.int .i64 (sizeQ q).2))] := by
 revert hb
 revert q
 refine QT.ind fun k t n ps ih hb => ?_
 rw [QB] at hb
 obtain ⟨⟨-,hl⟩,hbs⟩ := hb
 have hih := fun p hp => ih p hp (QBs_mem hbs p hp)
 replace hih := hide hih
 clear ih hbs
 rw [sizeQ]
 refine FCall.of_ax low_graph_size ?_
 dsimp only [l_graph_size,aQ,encQ,List.map]
 refine srun_sound 300 _ _ _ _ ?_
 have hel := encQs_len ps
 repeat' (first
  | (simp -implicitDefEqProofs only [*,zr,Nat.reduceAdd,Nat.reduceSub,Nat.reduceMul,Nat.reduceLT,Nat.reduceLeDiff,Nat.reduceEqDiff,Nat.reduceBEq,reduceIte,reduceCtorEq,Int.reduceLE,Int.reduceLT,Int.reduceToNat,Int.reduceEq,Int.reduceNe])
  | ((first|apply zk0|apply zk1|apply zk2|apply zk3|apply zk4|apply zk5|apply zk6|apply zk7|apply zk8|apply zk9) <;> intro hc)
  |(refine callP0 rfl ?_)
  |(refine callD0 rfl ?_)
  | fail)
 refine ax_loopU (S := Nat) 30 [9,10] [] (fun s => [(2,.f (.int .i64 (((sizesQ ps).take s).foldl szStep (1,0)).1)),(3,.f (.int .i64 (((sizesQ ps).take s).foldl szStep (1,0)).2)),(11,.f (.int .i64 s))]) (fun s => []) (fun s => s ≤ ps.length) (fun s => ps.length - s) (0) [] ?_ ?_ fun s hs => ?_
 ·exact Nat.zero_le _
 ·refine wk_i ?_ ?_ <;> simp only [List.take_zero,List.foldl_nil,zw,Nat.reduceEqDiff,Nat.reduceBEq,Nat.reduceLT,Nat.reduceLeDiff,reduceIte,reduceCtorEq]
 refine srun_sound 300 _ _ _ _ ?_
 rcases Nat.lt_or_ge s ps.length with hlt | hge
 ·obtain ⟨p,hp⟩ := get_some hlt
  have h4 := inc64 hlt (by omega)
  have h2 := lt_t hlt
  have he := encQs_at hp
  have ks := hih.out p (List.mem_of_getElem? hp)
  have hz : ((sizesQ ps).take (s + 1)).foldl szStep (1,0) = szStep (((sizesQ ps).take s).foldl szStep (1,0)) (sizeQ p) := by
   rw [List.take_add_one,sizesQ_at hp,Option.toList_some,List.foldl_append];rfl
  generalize ((sizesQ ps).take s).foldl szStep (1,0) = a at *
  generalize sizeQ p = x at *
  generalize encQs ps = E at *
  obtain ⟨pk,pt,pn,pps⟩ := p
  dsimp only [aQ,encQ,List.map] at ks he
  replace hz := hide hz
  replace hp := hide hp
  repeat' (first
   | (simp -implicitDefEqProofs only [*,zr,Nat.reduceAdd,Nat.reduceSub,Nat.reduceMul,Nat.reduceLT,Nat.reduceLeDiff,Nat.reduceEqDiff,Nat.reduceBEq,reduceIte,reduceCtorEq,Int.reduceLE,Int.reduceLT,Int.reduceToNat,Int.reduceEq,Int.reduceNe])
   | ((first|apply zk0|apply zk1|apply zk2|apply zk3|apply zk4|apply zk5|apply zk6|apply zk7|apply zk8|apply zk9) <;> intro hc)
   |(refine callP0 rfl ?_)
   |(refine callD0 rfl ?_)
   |(refine cP (ks) ?_)
   |(refine cD (ks) ?_)
   |(refine cF (ks) ?_)
   | fail)
  refine ⟨s + 1,hlt,by omega,?_⟩
  rw [hz.out]
  unfold szStep
  refine wk_i ?_ ?_ <;> simp only [zw,Nat.reduceEqDiff,Nat.reduceBEq,Nat.reduceLT,Nat.reduceLeDiff,reduceIte,reduceCtorEq]
 ·obtain rfl : s = ps.length := by omega
  have h2 := lt_f hge
  rw [List.take_of_length_le (by rw [sizesQ_len];exact Nat.le_refl _)]
  repeat' (first
   | (simp -implicitDefEqProofs only [*,zr,Nat.reduceAdd,Nat.reduceSub,Nat.reduceMul,Nat.reduceLT,Nat.reduceLeDiff,Nat.reduceEqDiff,Nat.reduceBEq,reduceIte,reduceCtorEq,Int.reduceLE,Int.reduceLT,Int.reduceToNat,Int.reduceEq,Int.reduceNe])
   | ((first|apply zk0|apply zk1|apply zk2|apply zk3|apply zk4|apply zk5|apply zk6|apply zk7|apply zk8|apply zk9) <;> intro hc)
   |(refine callP0 rfl ?_)
   |(refine callD0 rfl ?_)
   | fail)
  exact ret_vv
def fitsQ (k : Int) (t : ByteArray) : Bool := if k = 2 then isWholeV t else if k = 6 then isNameV t else if k = 7 then isPatV t else decide (t = ⟨#[]⟩)
theorem textFits_f (k : Int) (t : ByteArray) (n : Int) (ps : List QT) (ht : (t.size : Int) ≤ 140737488355328) : FRet Tryz.prog 24 [aQ (.mk k t n ps)] [.c (.v (.bool (fitsQ k t)))] := by
 have k1 := isWhole_f t ht
 have k2 := isName_f t
 have k3 := isPat_f t ht
 unfold fitsQ
 refine FCall.of_ax low_graph_textFits ?_
 dsimp only [l_graph_textFits,aQ,encQ,List.map]
 refine srun_sound 300 _ _ _ _ ?_
 by_cases c1 : k = 2
 ·rw [if_pos c1]
  have d1 := dcT c1
  replace c1 := hide c1
  repeat' (first
   | (simp -implicitDefEqProofs only [*,zr,Nat.reduceAdd,Nat.reduceSub,Nat.reduceMul,Nat.reduceLT,Nat.reduceLeDiff,Nat.reduceEqDiff,Nat.reduceBEq,reduceIte,reduceCtorEq,Int.reduceLE,Int.reduceLT,Int.reduceToNat,Int.reduceEq,Int.reduceNe])
   | ((first|apply zk0|apply zk1|apply zk2|apply zk3|apply zk4|apply zk5|apply zk6|apply zk7|apply zk8|apply zk9) <;> intro hc)
   |(refine callP0 rfl ?_)
   |(refine callD0 rfl ?_)
   |(refine cP (k1) ?_)
   |(refine cD (k1) ?_)
   |(refine cF (k1) ?_)
   | fail)
  exact ret_v
 rw [if_neg c1]
 have d1 := dcF c1
 by_cases c2 : k = 6
 ·rw [if_pos c2]
  have d2 := dcT c2
  replace c1 := hide c1
  replace c2 := hide c2
  repeat' (first
   | (simp -implicitDefEqProofs only [*,zr,Nat.reduceAdd,Nat.reduceSub,Nat.reduceMul,Nat.reduceLT,Nat.reduceLeDiff,Nat.reduceEqDiff,Nat.reduceBEq,reduceIte,reduceCtorEq,Int.reduceLE,Int.reduceLT,Int.reduceToNat,Int.reduceEq,Int.reduceNe])
   | ((first|apply zk0|apply zk1|apply zk2|apply zk3|apply zk4|apply zk5|apply zk6|apply zk7|apply zk8|apply zk9) <;> intro hc)
   |(refine callP0 rfl ?_)
   |(refine callD0 rfl ?_)
   |(refine cP (k2) ?_)
   |(refine cD (k2) ?_)
   |(refine cF (k2) ?_)
   | fail)
  exact ret_v
 rw [if_neg c2]
 have d2 := dcF c2
 by_cases c3 : k = 7
 ·rw [if_pos c3]
  have d3 := dcT c3
  replace c1 := hide c1
  replace c2 := hide c2
  replace c3 := hide c3
  repeat' (first
   | (simp -implicitDefEqProofs only [*,zr,Nat.reduceAdd,Nat.reduceSub,Nat.reduceMul,Nat.reduceLT,Nat.reduceLeDiff,Nat.reduceEqDiff,Nat.reduceBEq,reduceIte,reduceCtorEq,Int.reduceLE,Int.reduceLT,Int.reduceToNat,Int.reduceEq,Int.reduceNe])
   | ((first|apply zk0|apply zk1|apply zk2|apply zk3|apply zk4|apply zk5|apply zk6|apply zk7|apply zk8|apply zk9) <;> intro hc)
   |(refine callP0 rfl ?_)
   |(refine callD0 rfl ?_)
   |(refine cP (k3) ?_)
   |(refine cD (k3) ?_)
   |(refine cF (k3) ?_)
   | fail)
  exact ret_v
 rw [if_neg c3]
 have d3 := dcF c3
 replace c1 := hide c1
 replace c2 := hide c2
 replace c3 := hide c3
 repeat' (first
  | (simp -implicitDefEqProofs only [*,zr,Nat.reduceAdd,Nat.reduceSub,Nat.reduceMul,Nat.reduceLT,Nat.reduceLeDiff,Nat.reduceEqDiff,Nat.reduceBEq,reduceIte,reduceCtorEq,Int.reduceLE,Int.reduceLT,Int.reduceToNat,Int.reduceEq,Int.reduceNe])
  | ((first|apply zk0|apply zk1|apply zk2|apply zk3|apply zk4|apply zk5|apply zk6|apply zk7|apply zk8|apply zk9) <;> intro hc)
  |(refine callP0 rfl ?_)
  |(refine callD0 rfl ?_)
  | fail)
 exact ret_v
def partsN (k : Int) : Nat := if k = 1 ∨ k = 2 then 0 else if k = 3 ∨ k = 4 ∨ k = 6 ∨ k = 7 then 1 else 2
theorem partsOf_f (k : Int) : FRet Tryz.prog 25 [.f (.int .i64 k)] [.c (.v (.int .i64 (partsN k)))] := by
 unfold partsN
 refine FCall.of_ax low_graph_partsOf ?_
 dsimp only [l_graph_partsOf]
 refine srun_sound 300 _ _ _ _ ?_
 repeat' (first
  | (simp -implicitDefEqProofs only [*,zr,Nat.reduceAdd,Nat.reduceSub,Nat.reduceMul,Nat.reduceLT,Nat.reduceLeDiff,Nat.reduceEqDiff,Nat.reduceBEq,reduceIte,reduceCtorEq,Int.reduceLE,Int.reduceLT,Int.reduceToNat,Int.reduceEq,Int.reduceNe])
  | ((first|apply zk0|apply zk1|apply zk2|apply zk3|apply zk4|apply zk5|apply zk6|apply zk7|apply zk8|apply zk9) <;> intro hc)
  |(refine callP0 rfl ?_)
  |(refine callD0 rfl ?_)
  | fail)
 all_goals (refine ret_ve ?_;simp_all)
def rngQ (k n : Int) : Bool := (decide (k = 3) || decide (k = 4)) && (decide (n < -1) || decide (1000 < n)) || !(decide (k = 3) || decide (k = 4)) && !decide (n = 0)
mutual
def ckQ : QT → Int
 | .mk k t n ps => if k < 1 ∨ 10 < k then 4 else if fitsQ k t = false ∨ ps.length ≠ partsN k then 3 else if rngQ k n = true then 1 else ckQs ps
def ckQs : List QT → Int
 | [] => 0
 | p :: ps => if ckQ p ≠ 0 then ckQ p else ckQs ps
end
theorem ckQs_hit : ∀ {ps : List QT} {s : Nat} {p : QT},(∀ m x,m < s → ps[m]? = some x → ckQ x = 0) → ps[s]? = some p → ckQ p ≠ 0 → ckQs ps = ckQ p
 | [],s,p,_,h,_ => by simp at h
 | q :: ps,0,p,_,h,h0 => by simp at h;subst h;rw [ckQs,if_pos h0]
 | q :: ps,s + 1,p,ha,h,h0 => by
  rw [ckQs,if_neg (fun hh => hh (ha 0 q (Nat.succ_pos s) rfl))]
  exact ckQs_hit (fun m x hm hx => ha (m + 1) x (Nat.succ_lt_succ hm) (by simpa using hx)) (by simpa using h) h0
theorem ckQs_zero : ∀ {ps : List QT},ckQs ps = 0 ↔ ∀ p ∈ ps,ckQ p = 0
 | [] => by simp [ckQs]
 | q :: ps => by
  rw [ckQs]
  by_cases h : ckQ q = 0
  ·rw [if_neg (fun hh => hh h),ckQs_zero (ps := ps)]
   simp [h]
  ·rw [if_pos h]
   simp [h]
set_option maxHeartbeats 2000000 in
theorem checkQuery_f (q : QT) (hb : QB q) : FRet Tryz.prog 13 [aQ q] [.c (.v (.int .i64 (ckQ q)))] := by
 revert hb
 revert q
 refine QT.ind fun k t n ps ih hb => ?_
 rw [QB] at hb
 obtain ⟨⟨ht,hl⟩,hbs⟩ := hb
 have hih := fun p hp => ih p hp (QBs_mem hbs p hp)
 replace hih := hide hih
 clear ih hbs
 have kf := textFits_f k t n ps ht
 have kp := partsOf_f k
 rw [ckQ]
 refine FCall.of_ax low_graph_checkQuery ?_
 dsimp only [l_graph_checkQuery,aQ,encQ,List.map] at kf ⊢
 refine srun_sound 300 _ _ _ _ ?_
 have hel := encQs_len ps
 by_cases c1 : k < 1 ∨ 10 < k
 ·rw [if_pos c1]
  rcases c1 with c1 | c1
  ·have d1 : decide (k < 1) = true := dcT c1
   have d2 : decide (k = 3) = false := dcF (by omega)
   have d3 : decide (k = 4) = false := dcF (by omega)
   clear kf kp ht hl hel
   replace c1 := hide c1
   repeat' (first
    | (simp -implicitDefEqProofs only [*,zr,Nat.reduceAdd,Nat.reduceSub,Nat.reduceMul,Nat.reduceLT,Nat.reduceLeDiff,Nat.reduceEqDiff,Nat.reduceBEq,reduceIte,reduceCtorEq,Int.reduceLE,Int.reduceLT,Int.reduceToNat,Int.reduceEq,Int.reduceNe])
    | ((first|apply zk0|apply zk1|apply zk2|apply zk3|apply zk4|apply zk5|apply zk6|apply zk7|apply zk8|apply zk9) <;> intro hc)
    |(refine callP0 rfl ?_)
    |(refine callD0 rfl ?_)
    | fail)
   exact ret_v
  ·have d1 : decide (k < 1) = false := dcF (by omega)
   have d1' : decide (10 < k) = true := dcT c1
   have d1'' : decide (k > 10) = true := dcT c1
   have d2 : decide (k = 3) = false := dcF (by omega)
   have d3 : decide (k = 4) = false := dcF (by omega)
   clear kf kp ht hl hel
   replace c1 := hide c1
   repeat' (first
    | (simp -implicitDefEqProofs only [*,zr,Nat.reduceAdd,Nat.reduceSub,Nat.reduceMul,Nat.reduceLT,Nat.reduceLeDiff,Nat.reduceEqDiff,Nat.reduceBEq,reduceIte,reduceCtorEq,Int.reduceLE,Int.reduceLT,Int.reduceToNat,Int.reduceEq,Int.reduceNe])
    | ((first|apply zk0|apply zk1|apply zk2|apply zk3|apply zk4|apply zk5|apply zk6|apply zk7|apply zk8|apply zk9) <;> intro hc)
    |(refine callP0 rfl ?_)
    |(refine callD0 rfl ?_)
    | fail)
   exact ret_v
 rw [if_neg c1]
 have d1 : decide (k < 1) = false := dcF (by omega)
 have d1' : decide (10 < k) = false := dcF (by omega)
 have d1'' : decide (k > 10) = false := dcF (by omega)
 replace c1 := hide c1
 generalize fitsQ k t = ft at *
 obtain ⟨b3,h3⟩ : ∃ b,decide (k = 3) = b := ⟨_,rfl⟩
 obtain ⟨b4,h4⟩ : ∃ b,decide (k = 4) = b := ⟨_,rfl⟩
 by_cases c2 : ft = false ∨ ps.length ≠ partsN k
 ·rw [if_pos c2]
  generalize partsN k = pn at *
  cases ft with
  | false =>
   replace c2 := hide c2
   cases b3 with
   | true =>
    repeat' (first
     | (simp -implicitDefEqProofs only [*,zr,Nat.reduceAdd,Nat.reduceSub,Nat.reduceMul,Nat.reduceLT,Nat.reduceLeDiff,Nat.reduceEqDiff,Nat.reduceBEq,reduceIte,reduceCtorEq,Int.reduceLE,Int.reduceLT,Int.reduceToNat,Int.reduceEq,Int.reduceNe])
     | ((first|apply zk0|apply zk1|apply zk2|apply zk3|apply zk4|apply zk5|apply zk6|apply zk7|apply zk8|apply zk9) <;> intro hc)
     |(refine callP0 rfl ?_)
     |(refine callD0 rfl ?_)
     |(refine cP (kf) ?_)
     |(refine cD (kf) ?_)
     |(refine cF (kf) ?_)
     | fail)
    exact ret_v
   | false =>
    repeat' (first
     | (simp -implicitDefEqProofs only [*,zr,Nat.reduceAdd,Nat.reduceSub,Nat.reduceMul,Nat.reduceLT,Nat.reduceLeDiff,Nat.reduceEqDiff,Nat.reduceBEq,reduceIte,reduceCtorEq,Int.reduceLE,Int.reduceLT,Int.reduceToNat,Int.reduceEq,Int.reduceNe])
     | ((first|apply zk0|apply zk1|apply zk2|apply zk3|apply zk4|apply zk5|apply zk6|apply zk7|apply zk8|apply zk9) <;> intro hc)
     |(refine callP0 rfl ?_)
     |(refine callD0 rfl ?_)
     |(refine cP (kf) ?_)
     |(refine cD (kf) ?_)
     |(refine cF (kf) ?_)
     | fail)
    exact ret_v
  | true =>
   have hne : ps.length ≠ pn := c2.resolve_left (fun h => by cases h)
   have dl : decide ((ps.length : Int) = (pn : Int)) = false := dcF (by omega)
   replace c2 := hide c2
   replace hne := hide hne
   cases b3 with
   | true =>
    repeat' (first
     | (simp -implicitDefEqProofs only [*,zr,Nat.reduceAdd,Nat.reduceSub,Nat.reduceMul,Nat.reduceLT,Nat.reduceLeDiff,Nat.reduceEqDiff,Nat.reduceBEq,reduceIte,reduceCtorEq,Int.reduceLE,Int.reduceLT,Int.reduceToNat,Int.reduceEq,Int.reduceNe])
     | ((first|apply zk0|apply zk1|apply zk2|apply zk3|apply zk4|apply zk5|apply zk6|apply zk7|apply zk8|apply zk9) <;> intro hc)
     |(refine callP0 rfl ?_)
     |(refine callD0 rfl ?_)
     |(refine cP (kf) ?_)
     |(refine cD (kf) ?_)
     |(refine cF (kf) ?_)
     |(refine cP (kp) ?_)
     |(refine cD (kp) ?_)
     |(refine cF (kp) ?_)
     | fail)
    exact ret_v
   | false =>
    repeat' (first
     | (simp -implicitDefEqProofs only [*,zr,Nat.reduceAdd,Nat.reduceSub,Nat.reduceMul,Nat.reduceLT,Nat.reduceLeDiff,Nat.reduceEqDiff,Nat.reduceBEq,reduceIte,reduceCtorEq,Int.reduceLE,Int.reduceLT,Int.reduceToNat,Int.reduceEq,Int.reduceNe])
     | ((first|apply zk0|apply zk1|apply zk2|apply zk3|apply zk4|apply zk5|apply zk6|apply zk7|apply zk8|apply zk9) <;> intro hc)
     |(refine callP0 rfl ?_)
     |(refine callD0 rfl ?_)
     |(refine cP (kf) ?_)
     |(refine cD (kf) ?_)
     |(refine cF (kf) ?_)
     |(refine cP (kp) ?_)
     |(refine cD (kp) ?_)
     |(refine cF (kp) ?_)
     | fail)
    exact ret_v
 rw [if_neg c2]
 have hft : ft = true := by
  cases ft with
  | true => rfl
  | false => exact absurd (.inl rfl) c2
 have hpl : ps.length = partsN k := Decidable.byContradiction fun h => c2 (.inr h)
 subst hft
 have dl : decide ((ps.length : Int) = ((partsN k : Nat) : Int)) = true := dcT (by omega)
 replace c2 := hide c2
 generalize partsN k = pn at *
 replace hpl := hide hpl
 obtain ⟨x1,hx1⟩ : ∃ b,decide (n < -1) = b := ⟨_,rfl⟩
 obtain ⟨x2,hx2⟩ : ∃ b,decide (1000 < n) = b := ⟨_,rfl⟩
 have hx2' : decide (n > 1000) = x2 := hx2
 obtain ⟨x3,hx3⟩ : ∃ b,decide (n = 0) = b := ⟨_,rfl⟩
 have er : rngQ k n = ((b3 || b4) && (x1 || x2) || !(b3 || b4) && !x3) := by unfold rngQ;rw [h3,h4,hx1,hx2,hx3]
 rw [er]
 clear er
 cases b3 with
 | true =>
  cases b4 with
  | true => exact absurd (of_decide_eq_true h3) (by have := of_decide_eq_true h4;omega)
  | false =>
   cases x1 with
   | true =>
    rw [if_pos (show ((true || false) && (true || x2) || !(true || false) && !x3) = true by cases x2 <;> cases x3 <;> rfl)]
    repeat' (first
     | (simp -implicitDefEqProofs only [*,zr,Nat.reduceAdd,Nat.reduceSub,Nat.reduceMul,Nat.reduceLT,Nat.reduceLeDiff,Nat.reduceEqDiff,Nat.reduceBEq,reduceIte,reduceCtorEq,Int.reduceLE,Int.reduceLT,Int.reduceToNat,Int.reduceEq,Int.reduceNe])
     | ((first|apply zk0|apply zk1|apply zk2|apply zk3|apply zk4|apply zk5|apply zk6|apply zk7|apply zk8|apply zk9) <;> intro hc)
     |(refine callP0 rfl ?_)
     |(refine callD0 rfl ?_)
     |(refine cP (kf) ?_)
     |(refine cD (kf) ?_)
     |(refine cF (kf) ?_)
     |(refine cP (kp) ?_)
     |(refine cD (kp) ?_)
     |(refine cF (kp) ?_)
     | fail)
    exact ret_v
   | false =>
    cases x2 with
    | true =>
     rw [if_pos (show ((true || false) && (false || true) || !(true || false) && !x3) = true by cases x3 <;> rfl)]
     repeat' (first
      | (simp -implicitDefEqProofs only [*,zr,Nat.reduceAdd,Nat.reduceSub,Nat.reduceMul,Nat.reduceLT,Nat.reduceLeDiff,Nat.reduceEqDiff,Nat.reduceBEq,reduceIte,reduceCtorEq,Int.reduceLE,Int.reduceLT,Int.reduceToNat,Int.reduceEq,Int.reduceNe])
      | ((first|apply zk0|apply zk1|apply zk2|apply zk3|apply zk4|apply zk5|apply zk6|apply zk7|apply zk8|apply zk9) <;> intro hc)
      |(refine callP0 rfl ?_)
      |(refine callD0 rfl ?_)
      |(refine cP (kf) ?_)
      |(refine cD (kf) ?_)
      |(refine cF (kf) ?_)
      |(refine cP (kp) ?_)
      |(refine cD (kp) ?_)
      |(refine cF (kp) ?_)
      | fail)
     exact ret_v
    | false =>
     rw [if_neg (show ¬ (((true || false) && (false || false) || !(true || false) && !x3) = true) by cases x3 <;> decide)]
     repeat' (first
      | (simp -implicitDefEqProofs only [*,zr,Nat.reduceAdd,Nat.reduceSub,Nat.reduceMul,Nat.reduceLT,Nat.reduceLeDiff,Nat.reduceEqDiff,Nat.reduceBEq,reduceIte,reduceCtorEq,Int.reduceLE,Int.reduceLT,Int.reduceToNat,Int.reduceEq,Int.reduceNe])
      | ((first|apply zk0|apply zk1|apply zk2|apply zk3|apply zk4|apply zk5|apply zk6|apply zk7|apply zk8|apply zk9) <;> intro hc)
      |(refine callP0 rfl ?_)
      |(refine callD0 rfl ?_)
      |(refine cP (kf) ?_)
      |(refine cD (kf) ?_)
      |(refine cF (kf) ?_)
      |(refine cP (kp) ?_)
      |(refine cD (kp) ?_)
      |(refine cF (kp) ?_)
      | fail)
     refine ax_loopU (S := Nat) 71 [59,60] [] (fun s => [(61,.f (.int .i64 s))]) (fun s => []) (fun s => s ≤ ps.length ∧ ∀ m x,m < s → ps[m]? = some x → ckQ x = 0) (fun s => ps.length - s) (0) [] ?_ ?_ fun s hs => ?_
     ·exact ⟨Nat.zero_le _,fun m x h => absurd h (by omega)⟩
     ·refine wk_i ?_ ?_ <;> simp only [zw,Nat.reduceEqDiff,Nat.reduceBEq,Nat.reduceLT,Nat.reduceLeDiff,reduceIte,reduceCtorEq]
     obtain ⟨hi,hall⟩ := hs
     refine srun_sound 300 _ _ _ _ ?_
     replace hall := hide hall
     rcases Nat.lt_or_ge s ps.length with hlt | hge
     ·obtain ⟨p,hp⟩ := get_some hlt
      have h4 := inc64 hlt (by omega)
      have h2 := lt_t hlt
      have he := encQs_at hp
      have ks := hih.out p (List.mem_of_getElem? hp)
      have hE := fun h => ckQs_hit hall.out hp h
      have hA : ckQ p = 0 → ∀ m x,m < s + 1 → ps[m]? = some x → ckQ x = 0 := fun h0 m x hm hx => by
       rcases Nat.lt_succ_iff_lt_or_eq.1 hm with h1 | rfl
       ·exact hall.out m x h1 hx
       ·rw [hp] at hx;obtain rfl := Option.some.inj hx;exact h0
      replace hA := hide hA
      replace hp := hide hp
      generalize ckQ p = c at *
      generalize encQs ps = E at *
      obtain ⟨pk,pt,pn',pps⟩ := p
      dsimp only [aQ,encQ,List.map] at ks he
      by_cases hc0 : c = 0
      ·have dc := dcT hc0
       replace hE := hide hE
       replace hc0 := hide hc0
       repeat' (first
        | (simp -implicitDefEqProofs only [*,zr,Nat.reduceAdd,Nat.reduceSub,Nat.reduceMul,Nat.reduceLT,Nat.reduceLeDiff,Nat.reduceEqDiff,Nat.reduceBEq,reduceIte,reduceCtorEq,Int.reduceLE,Int.reduceLT,Int.reduceToNat,Int.reduceEq,Int.reduceNe])
        | ((first|apply zk0|apply zk1|apply zk2|apply zk3|apply zk4|apply zk5|apply zk6|apply zk7|apply zk8|apply zk9) <;> intro hc)
        |(refine callP0 rfl ?_)
        |(refine callD0 rfl ?_)
        |(refine cP (ks) ?_)
        |(refine cD (ks) ?_)
        |(refine cF (ks) ?_)
        | fail)
       refine ⟨s + 1,⟨hlt,hA.out hc0.out⟩,by omega,?_⟩
       refine wk_i ?_ ?_ <;> simp only [zw,Nat.reduceEqDiff,Nat.reduceBEq,Nat.reduceLT,Nat.reduceLeDiff,reduceIte,reduceCtorEq]
      ·have dc := dcF hc0
       rw [hE hc0]
       replace hE := hide hE
       replace hc0 := hide hc0
       repeat' (first
        | (simp -implicitDefEqProofs only [*,zr,Nat.reduceAdd,Nat.reduceSub,Nat.reduceMul,Nat.reduceLT,Nat.reduceLeDiff,Nat.reduceEqDiff,Nat.reduceBEq,reduceIte,reduceCtorEq,Int.reduceLE,Int.reduceLT,Int.reduceToNat,Int.reduceEq,Int.reduceNe])
        | ((first|apply zk0|apply zk1|apply zk2|apply zk3|apply zk4|apply zk5|apply zk6|apply zk7|apply zk8|apply zk9) <;> intro hc)
        |(refine callP0 rfl ?_)
        |(refine callD0 rfl ?_)
        |(refine cP (ks) ?_)
        |(refine cD (ks) ?_)
        |(refine cF (ks) ?_)
        | fail)
       exact ret_v
     ·obtain rfl : s = ps.length := by omega
      have h2 := lt_f hge
      have he : ckQs ps = 0 := ckQs_zero.2 fun p hp => by
       obtain ⟨m,hm⟩ := List.mem_iff_getElem?.1 hp
       exact hall.out m p (List.getElem?_eq_some_iff.1 hm).1 hm
      rw [he]
      repeat' (first
       | (simp -implicitDefEqProofs only [*,zr,Nat.reduceAdd,Nat.reduceSub,Nat.reduceMul,Nat.reduceLT,Nat.reduceLeDiff,Nat.reduceEqDiff,Nat.reduceBEq,reduceIte,reduceCtorEq,Int.reduceLE,Int.reduceLT,Int.reduceToNat,Int.reduceEq,Int.reduceNe])
       | ((first|apply zk0|apply zk1|apply zk2|apply zk3|apply zk4|apply zk5|apply zk6|apply zk7|apply zk8|apply zk9) <;> intro hc)
       |(refine callP0 rfl ?_)
       |(refine callD0 rfl ?_)
       | fail)
      exact ret_v
 | false =>
  cases b4 with
  | true =>
   cases x1 with
   | true =>
    rw [if_pos (show ((false || true) && (true || x2) || !(false || true) && !x3) = true by cases x2 <;> cases x3 <;> rfl)]
    repeat' (first
     | (simp -implicitDefEqProofs only [*,zr,Nat.reduceAdd,Nat.reduceSub,Nat.reduceMul,Nat.reduceLT,Nat.reduceLeDiff,Nat.reduceEqDiff,Nat.reduceBEq,reduceIte,reduceCtorEq,Int.reduceLE,Int.reduceLT,Int.reduceToNat,Int.reduceEq,Int.reduceNe])
     | ((first|apply zk0|apply zk1|apply zk2|apply zk3|apply zk4|apply zk5|apply zk6|apply zk7|apply zk8|apply zk9) <;> intro hc)
     |(refine callP0 rfl ?_)
     |(refine callD0 rfl ?_)
     |(refine cP (kf) ?_)
     |(refine cD (kf) ?_)
     |(refine cF (kf) ?_)
     |(refine cP (kp) ?_)
     |(refine cD (kp) ?_)
     |(refine cF (kp) ?_)
     | fail)
    exact ret_v
   | false =>
    cases x2 with
    | true =>
     rw [if_pos (show ((false || true) && (false || true) || !(false || true) && !x3) = true by cases x3 <;> rfl)]
     repeat' (first
      | (simp -implicitDefEqProofs only [*,zr,Nat.reduceAdd,Nat.reduceSub,Nat.reduceMul,Nat.reduceLT,Nat.reduceLeDiff,Nat.reduceEqDiff,Nat.reduceBEq,reduceIte,reduceCtorEq,Int.reduceLE,Int.reduceLT,Int.reduceToNat,Int.reduceEq,Int.reduceNe])
      | ((first|apply zk0|apply zk1|apply zk2|apply zk3|apply zk4|apply zk5|apply zk6|apply zk7|apply zk8|apply zk9) <;> intro hc)
      |(refine callP0 rfl ?_)
      |(refine callD0 rfl ?_)
      |(refine cP (kf) ?_)
      |(refine cD (kf) ?_)
      |(refine cF (kf) ?_)
      |(refine cP (kp) ?_)
      |(refine cD (kp) ?_)
      |(refine cF (kp) ?_)
      | fail)
     exact ret_v
    | false =>
     rw [if_neg (show ¬ (((false || true) && (false || false) || !(false || true) && !x3) = true) by cases x3 <;> decide)]
     repeat' (first
      | (simp -implicitDefEqProofs only [*,zr,Nat.reduceAdd,Nat.reduceSub,Nat.reduceMul,Nat.reduceLT,Nat.reduceLeDiff,Nat.reduceEqDiff,Nat.reduceBEq,reduceIte,reduceCtorEq,Int.reduceLE,Int.reduceLT,Int.reduceToNat,Int.reduceEq,Int.reduceNe])
      | ((first|apply zk0|apply zk1|apply zk2|apply zk3|apply zk4|apply zk5|apply zk6|apply zk7|apply zk8|apply zk9) <;> intro hc)
      |(refine callP0 rfl ?_)
      |(refine callD0 rfl ?_)
      |(refine cP (kf) ?_)
      |(refine cD (kf) ?_)
      |(refine cF (kf) ?_)
      |(refine cP (kp) ?_)
      |(refine cD (kp) ?_)
      |(refine cF (kp) ?_)
      | fail)
     refine ax_loopU (S := Nat) 71 [59,60] [] (fun s => [(61,.f (.int .i64 s))]) (fun s => []) (fun s => s ≤ ps.length ∧ ∀ m x,m < s → ps[m]? = some x → ckQ x = 0) (fun s => ps.length - s) (0) [] ?_ ?_ fun s hs => ?_
     ·exact ⟨Nat.zero_le _,fun m x h => absurd h (by omega)⟩
     ·refine wk_i ?_ ?_ <;> simp only [zw,Nat.reduceEqDiff,Nat.reduceBEq,Nat.reduceLT,Nat.reduceLeDiff,reduceIte,reduceCtorEq]
     obtain ⟨hi,hall⟩ := hs
     refine srun_sound 300 _ _ _ _ ?_
     replace hall := hide hall
     rcases Nat.lt_or_ge s ps.length with hlt | hge
     ·obtain ⟨p,hp⟩ := get_some hlt
      have h4 := inc64 hlt (by omega)
      have h2 := lt_t hlt
      have he := encQs_at hp
      have ks := hih.out p (List.mem_of_getElem? hp)
      have hE := fun h => ckQs_hit hall.out hp h
      have hA : ckQ p = 0 → ∀ m x,m < s + 1 → ps[m]? = some x → ckQ x = 0 := fun h0 m x hm hx => by
       rcases Nat.lt_succ_iff_lt_or_eq.1 hm with h1 | rfl
       ·exact hall.out m x h1 hx
       ·rw [hp] at hx;obtain rfl := Option.some.inj hx;exact h0
      replace hA := hide hA
      replace hp := hide hp
      generalize ckQ p = c at *
      generalize encQs ps = E at *
      obtain ⟨pk,pt,pn',pps⟩ := p
      dsimp only [aQ,encQ,List.map] at ks he
      by_cases hc0 : c = 0
      ·have dc := dcT hc0
       replace hE := hide hE
       replace hc0 := hide hc0
       repeat' (first
        | (simp -implicitDefEqProofs only [*,zr,Nat.reduceAdd,Nat.reduceSub,Nat.reduceMul,Nat.reduceLT,Nat.reduceLeDiff,Nat.reduceEqDiff,Nat.reduceBEq,reduceIte,reduceCtorEq,Int.reduceLE,Int.reduceLT,Int.reduceToNat,Int.reduceEq,Int.reduceNe])
        | ((first|apply zk0|apply zk1|apply zk2|apply zk3|apply zk4|apply zk5|apply zk6|apply zk7|apply zk8|apply zk9) <;> intro hc)
        |(refine callP0 rfl ?_)
        |(refine callD0 rfl ?_)
        |(refine cP (ks) ?_)
        |(refine cD (ks) ?_)
        |(refine cF (ks) ?_)
        | fail)
       refine ⟨s + 1,⟨hlt,hA.out hc0.out⟩,by omega,?_⟩
       refine wk_i ?_ ?_ <;> simp only [zw,Nat.reduceEqDiff,Nat.reduceBEq,Nat.reduceLT,Nat.reduceLeDiff,reduceIte,reduceCtorEq]
      ·have dc := dcF hc0
       rw [hE hc0]
       replace hE := hide hE
       replace hc0 := hide hc0
       repeat' (first
        | (simp -implicitDefEqProofs only [*,zr,Nat.reduceAdd,Nat.reduceSub,Nat.reduceMul,Nat.reduceLT,Nat.reduceLeDiff,Nat.reduceEqDiff,Nat.reduceBEq,reduceIte,reduceCtorEq,Int.reduceLE,Int.reduceLT,Int.reduceToNat,Int.reduceEq,Int.reduceNe])
        | ((first|apply zk0|apply zk1|apply zk2|apply zk3|apply zk4|apply zk5|apply zk6|apply zk7|apply zk8|apply zk9) <;> intro hc)
        |(refine callP0 rfl ?_)
        |(refine callD0 rfl ?_)
        |(refine cP (ks) ?_)
        |(refine cD (ks) ?_)
        |(refine cF (ks) ?_)
        | fail)
       exact ret_v
     ·obtain rfl : s = ps.length := by omega
      have h2 := lt_f hge
      have he : ckQs ps = 0 := ckQs_zero.2 fun p hp => by
       obtain ⟨m,hm⟩ := List.mem_iff_getElem?.1 hp
       exact hall.out m p (List.getElem?_eq_some_iff.1 hm).1 hm
      rw [he]
      repeat' (first
       | (simp -implicitDefEqProofs only [*,zr,Nat.reduceAdd,Nat.reduceSub,Nat.reduceMul,Nat.reduceLT,Nat.reduceLeDiff,Nat.reduceEqDiff,Nat.reduceBEq,reduceIte,reduceCtorEq,Int.reduceLE,Int.reduceLT,Int.reduceToNat,Int.reduceEq,Int.reduceNe])
       | ((first|apply zk0|apply zk1|apply zk2|apply zk3|apply zk4|apply zk5|apply zk6|apply zk7|apply zk8|apply zk9) <;> intro hc)
       |(refine callP0 rfl ?_)
       |(refine callD0 rfl ?_)
       | fail)
      exact ret_v
  | false =>
   cases x3 with
   | false =>
    rw [if_pos (show ((false || false) && (x1 || x2) || !(false || false) && !false) = true by cases x1 <;> cases x2 <;> rfl)]
    repeat' (first
     | (simp -implicitDefEqProofs only [*,zr,Nat.reduceAdd,Nat.reduceSub,Nat.reduceMul,Nat.reduceLT,Nat.reduceLeDiff,Nat.reduceEqDiff,Nat.reduceBEq,reduceIte,reduceCtorEq,Int.reduceLE,Int.reduceLT,Int.reduceToNat,Int.reduceEq,Int.reduceNe])
     | ((first|apply zk0|apply zk1|apply zk2|apply zk3|apply zk4|apply zk5|apply zk6|apply zk7|apply zk8|apply zk9) <;> intro hc)
     |(refine callP0 rfl ?_)
     |(refine callD0 rfl ?_)
     |(refine cP (kf) ?_)
     |(refine cD (kf) ?_)
     |(refine cF (kf) ?_)
     |(refine cP (kp) ?_)
     |(refine cD (kp) ?_)
     |(refine cF (kp) ?_)
     | fail)
    exact ret_v
   | true =>
    rw [if_neg (show ¬ (((false || false) && (x1 || x2) || !(false || false) && !true) = true) by cases x1 <;> cases x2 <;> decide)]
    repeat' (first
     | (simp -implicitDefEqProofs only [*,zr,Nat.reduceAdd,Nat.reduceSub,Nat.reduceMul,Nat.reduceLT,Nat.reduceLeDiff,Nat.reduceEqDiff,Nat.reduceBEq,reduceIte,reduceCtorEq,Int.reduceLE,Int.reduceLT,Int.reduceToNat,Int.reduceEq,Int.reduceNe])
     | ((first|apply zk0|apply zk1|apply zk2|apply zk3|apply zk4|apply zk5|apply zk6|apply zk7|apply zk8|apply zk9) <;> intro hc)
     |(refine callP0 rfl ?_)
     |(refine callD0 rfl ?_)
     |(refine cP (kf) ?_)
     |(refine cD (kf) ?_)
     |(refine cF (kf) ?_)
     |(refine cP (kp) ?_)
     |(refine cD (kp) ?_)
     |(refine cF (kp) ?_)
     | fail)
    refine ax_loopU (S := Nat) 71 [59,60] [] (fun s => [(61,.f (.int .i64 s))]) (fun s => []) (fun s => s ≤ ps.length ∧ ∀ m x,m < s → ps[m]? = some x → ckQ x = 0) (fun s => ps.length - s) (0) [] ?_ ?_ fun s hs => ?_
    ·exact ⟨Nat.zero_le _,fun m x h => absurd h (by omega)⟩
    ·refine wk_i ?_ ?_ <;> simp only [zw,Nat.reduceEqDiff,Nat.reduceBEq,Nat.reduceLT,Nat.reduceLeDiff,reduceIte,reduceCtorEq]
    obtain ⟨hi,hall⟩ := hs
    refine srun_sound 300 _ _ _ _ ?_
    replace hall := hide hall
    rcases Nat.lt_or_ge s ps.length with hlt | hge
    ·obtain ⟨p,hp⟩ := get_some hlt
     have h4 := inc64 hlt (by omega)
     have h2 := lt_t hlt
     have he := encQs_at hp
     have ks := hih.out p (List.mem_of_getElem? hp)
     have hE := fun h => ckQs_hit hall.out hp h
     have hA : ckQ p = 0 → ∀ m x,m < s + 1 → ps[m]? = some x → ckQ x = 0 := fun h0 m x hm hx => by
      rcases Nat.lt_succ_iff_lt_or_eq.1 hm with h1 | rfl
      ·exact hall.out m x h1 hx
      ·rw [hp] at hx;obtain rfl := Option.some.inj hx;exact h0
     replace hA := hide hA
     replace hp := hide hp
     generalize ckQ p = c at *
     generalize encQs ps = E at *
     obtain ⟨pk,pt,pn',pps⟩ := p
     dsimp only [aQ,encQ,List.map] at ks he
     by_cases hc0 : c = 0
     ·have dc := dcT hc0
      replace hE := hide hE
      replace hc0 := hide hc0
      repeat' (first
       | (simp -implicitDefEqProofs only [*,zr,Nat.reduceAdd,Nat.reduceSub,Nat.reduceMul,Nat.reduceLT,Nat.reduceLeDiff,Nat.reduceEqDiff,Nat.reduceBEq,reduceIte,reduceCtorEq,Int.reduceLE,Int.reduceLT,Int.reduceToNat,Int.reduceEq,Int.reduceNe])
       | ((first|apply zk0|apply zk1|apply zk2|apply zk3|apply zk4|apply zk5|apply zk6|apply zk7|apply zk8|apply zk9) <;> intro hc)
       |(refine callP0 rfl ?_)
       |(refine callD0 rfl ?_)
       |(refine cP (ks) ?_)
       |(refine cD (ks) ?_)
       |(refine cF (ks) ?_)
       | fail)
      refine ⟨s + 1,⟨hlt,hA.out hc0.out⟩,by omega,?_⟩
      refine wk_i ?_ ?_ <;> simp only [zw,Nat.reduceEqDiff,Nat.reduceBEq,Nat.reduceLT,Nat.reduceLeDiff,reduceIte,reduceCtorEq]
     ·have dc := dcF hc0
      rw [hE hc0]
      replace hE := hide hE
      replace hc0 := hide hc0
      repeat' (first
       | (simp -implicitDefEqProofs only [*,zr,Nat.reduceAdd,Nat.reduceSub,Nat.reduceMul,Nat.reduceLT,Nat.reduceLeDiff,Nat.reduceEqDiff,Nat.reduceBEq,reduceIte,reduceCtorEq,Int.reduceLE,Int.reduceLT,Int.reduceToNat,Int.reduceEq,Int.reduceNe])
       | ((first|apply zk0|apply zk1|apply zk2|apply zk3|apply zk4|apply zk5|apply zk6|apply zk7|apply zk8|apply zk9) <;> intro hc)
       |(refine callP0 rfl ?_)
       |(refine callD0 rfl ?_)
       |(refine cP (ks) ?_)
       |(refine cD (ks) ?_)
       |(refine cF (ks) ?_)
       | fail)
      exact ret_v
    ·obtain rfl : s = ps.length := by omega
     have h2 := lt_f hge
     have he : ckQs ps = 0 := ckQs_zero.2 fun p hp => by
      obtain ⟨m,hm⟩ := List.mem_iff_getElem?.1 hp
      exact hall.out m p (List.getElem?_eq_some_iff.1 hm).1 hm
     rw [he]
     repeat' (first
      | (simp -implicitDefEqProofs only [*,zr,Nat.reduceAdd,Nat.reduceSub,Nat.reduceMul,Nat.reduceLT,Nat.reduceLeDiff,Nat.reduceEqDiff,Nat.reduceBEq,reduceIte,reduceCtorEq,Int.reduceLE,Int.reduceLT,Int.reduceToNat,Int.reduceEq,Int.reduceNe])
      | ((first|apply zk0|apply zk1|apply zk2|apply zk3|apply zk4|apply zk5|apply zk6|apply zk7|apply zk8|apply zk9) <;> intro hc)
      |(refine callP0 rfl ?_)
      |(refine callD0 rfl ?_)
      | fail)
     exact ret_v
end Go.Proofs.YtagkdifaldikgaaGreatDoor
