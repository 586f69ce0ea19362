/-
  WireTakesAgain and WireTakesStayRight. No statement of the seat is proved here; no conditions.
-/
import Derived.Test.YtjacnfjlocajoaaDoorWrS
import Derived.Test.YtjacnfjlocajoaaDoorAwk8
namespace Go.Proofs.YtjacnfjlocajoaaDoor
open Go.RowKit Go.Shelf
set_option linter.unusedVariables false
set_option linter.unusedSimpArgs false
set_option maxRecDepth 100000

theorem dropWhile_nil {α : Type} (p : α → Bool) : ∀ l : List α,(l.dropWhile p).isEmpty = l.all p
 | [] => rfl
 | a :: l => by
  cases h : p a
  ·simp [List.dropWhile,h]
  ·simp [List.dropWhile,h,dropWhile_nil p l]
theorem trimS_nil (l cs : List UInt8) (h : l.all (cs.contains ·) = true) : (Lib.trimS l cs).isEmpty = true := by
 unfold Lib.trimS Lib.trimLeftS Lib.trimRightS
 rw [dropWhile_nil]
 have h2 : (l.reverse.dropWhile (cs.contains ·)).isEmpty = true := by rw [dropWhile_nil,List.all_reverse];exact h
 rw [List.isEmpty_iff.1 h2];rfl
theorem digTo_hex (n : Int) : ∀ s,s ≤ 16 → ∀ i,16 - s ≤ i → ∀ x,(digTo n s).1[i]? = some x → hexS.contains x = true
 | 0,_,i,h,x,hx => by
  have := (List.getElem?_eq_some_iff.1 hx).1
  rw [digTo_len] at this
  omega
 | s + 1,hs,i,h,x,hx => by
  have hl := (List.getElem?_eq_some_iff.1 hx).1
  rw [digTo_len] at hl
  rw [digTo] at hx
  dsimp only at hx
  by_cases e : 15 - s = i
  ·rw [e,List.getElem?_set_self (by rw [digTo_len];exact hl)] at hx
   obtain rfl := Option.some.inj hx
   have := hex_at (and15 (digTo n s).2)
   exact List.contains_iff_mem.2 (show _ ∈ hexS from List.mem_of_getElem? this)
  ·rw [List.getElem?_set_ne e] at hx
   exact digTo_hex n s (by omega) i (by omega) x hx
theorem isDig_digV {b : List UInt8} : isDig (digV b) = true := by
 have hl := digTo_len (digN b) 16
 have key := digTo_hex (digN b) 16 (Nat.le_refl _)
 unfold isDig digV
 generalize digTo (digN b) 16 = L at *
 rw [Bool.and_eq_true]
 refine ⟨?_,?_⟩
 ·simp [ByteArray.size,hl]
 ·refine trimS_nil _ _ (List.all_eq_true.2 fun x hx => ?_)
  have hx' : x ∈ L.1 := by simpa using hx
  obtain ⟨i,hi⟩ := List.mem_iff_getElem?.1 hx'
  exact key i (by omega) x hi
structure RcS (r : Rc) : Prop where
 l : (r.1.length : Int) ≤ 9223372036854775807 ∧ (r.2.length : Int) ≤ 9223372036854775807
 b : (∀ x ∈ r.1,(x.2.length : Int) ≤ 9223372036854775807) ∧ ∀ x ∈ r.2,(x.2.2.length : Int) ≤ 9223372036854775807
theorem ROk.sizes {r : Rc} (h : ROk r) : RcS r := ⟨⟨by have := h.d.len;omega,by have := h.p.len;omega⟩,fun x hx => by have := h.d.ok x hx;omega,fun x hx => by have := h.p.ok x hx;omega⟩
theorem rcS_nil : RcS ([],[]) := ⟨⟨by decide,by decide⟩,fun x hx => by simp at hx,fun x hx => by simp at hx⟩
theorem Take_err {r : Rc} {m : Mg} (h0 : (TakeV r m).1 ≠ 0) : (TakeV r m).2 = (([],[]),mg0) := by
 unfold TakeV at h0 ⊢
 split
 ·rfl
 ·split
  ·rfl
  ·rename_i h1 h2
   rw [if_neg h1,if_neg h2] at h0
   exact absurd (Decidable.not_not.1 h2) h0
theorem Take_sizes {r : Rc} {m : Mg} : RcS (TakeV r m).2.1 := by
 by_cases h0 : (TakeV r m).1 = 0
 ·exact (Take_right h0).2.2.ok.sizes
 ·rw [Take_err h0];exact rcS_nil
set_option maxHeartbeats 4000000 in
theorem again_law_f (r : Rc) (m : Mg) (hr : RcS r) (hm : (m.2.2.2.2.length : Int) ≤ 9223372036854775807) : FRet Tryd.prog 3 [aRc r,aMg m] [.c (.v (.bool true))] := by
 have k1 := Take_f r m hr.l hr.b hm
 have hn := Take_nil (r := r) (m := m)
 have hs := Take_sizes (r := r) (m := m)
 have k2 := Take_f (TakeV r m).2.1 m hs.l hs.b hm
 have kS := sameRc_f (TakeV r m).2.1 hs.l hs.b
 have kM := sameMg_f (TakeV r m).2.2 (by rw [hn];decide)
 have hE := Take_err (r := r) (m := m)
 have hA := Take_again (r := r) (m := m)
 generalize hV : TakeV r m = V at *
 have hl : V.1 ≠ 0 → V.2.1.1 = [] := fun h => by rw [hE h]
 obtain ⟨q,⟨D2,P2⟩,a⟩ := V
 obtain ⟨D,P⟩ := r
 obtain ⟨mk,t,fr,sz,b⟩ := m
 dsimp only at *
 refine FCall.of_ax low_law8_WireTakesAgain ?_
 dsimp only [l_law8_WireTakesAgain,aRc,aMg,fMg,List.map,rInt] at k1 k2 kS kM ⊢
 refine srun_sound 300 _ _ _ _ ?_
 by_cases h0 : q = 0
 case neg =>
  have h1 := hl h0
  subst h1
  have d1 := dcF h0
  have d2 : decide (((0 : Nat) : Int) = 0) = true := by decide
  clear k2 kS kM hE hA hl
  replace hV := hide hV
  repeat' (first
   | (simp -implicitDefEqProofs only [*,frObs,List.map_nil,List.length_nil,zr,Nat.reduceAdd,Nat.reduceSub,Nat.reduceMul,Nat.reduceLT,Nat.reduceLeDiff,Nat.reduceEqDiff,Nat.reduceBEq,reduceIte,reduceCtorEq,Int.reduceLE,Int.reduceLT,Int.reduceToNat,Int.reduceEq,Int.reduceNe])
   | ((first|apply zk0|apply zk1|apply zk2|apply zk3|apply zk4|apply zk5|apply zk6|apply zk7|apply zk8|apply zk9) <;> intro hc)
   |(refine callP0 rfl ?_)
   |(refine callD0 rfl ?_)
   |(refine cP (k1) ?_)
   |(refine cD (k1) ?_)
   |(refine cF (k1) ?_)
   |(refine cP (awake8_f) ?_)
   |(refine cD (awake8_f) ?_)
   |(refine cF (awake8_f) ?_)
   | fail)
  exact ret_v
 subst h0
 by_cases h5 : a.1 = 5
 ·have d1 := dcT h5
  clear k2 kS kM hE hA hl
  replace hV := hide hV
  repeat' (first
   | (simp -implicitDefEqProofs only [*,zr,Nat.reduceAdd,Nat.reduceSub,Nat.reduceMul,Nat.reduceLT,Nat.reduceLeDiff,Nat.reduceEqDiff,Nat.reduceBEq,reduceIte,reduceCtorEq,Int.reduceLE,Int.reduceLT,Int.reduceToNat,Int.reduceEq,Int.reduceNe])
   | ((first|apply zk0|apply zk1|apply zk2|apply zk3|apply zk4|apply zk5|apply zk6|apply zk7|apply zk8|apply zk9) <;> intro hc)
   |(refine callP0 rfl ?_)
   |(refine callD0 rfl ?_)
   |(refine cP (k1) ?_)
   |(refine cD (k1) ?_)
   |(refine cF (k1) ?_)
   |(refine cP (awake8_f) ?_)
   |(refine cD (awake8_f) ?_)
   |(refine cF (awake8_f) ?_)
   | fail)
  exact ret_v
 rw [hA rfl h5] at k2
 have d1 := dcF h5
 rw [hn] at kM
 clear hE hA hl
 replace hV := hide hV
 repeat' (first
  | (simp -implicitDefEqProofs only [*,zr,Nat.reduceAdd,Nat.reduceSub,Nat.reduceMul,Nat.reduceLT,Nat.reduceLeDiff,Nat.reduceEqDiff,Nat.reduceBEq,reduceIte,reduceCtorEq,Int.reduceLE,Int.reduceLT,Int.reduceToNat,Int.reduceEq,Int.reduceNe])
  | ((first|apply zk0|apply zk1|apply zk2|apply zk3|apply zk4|apply zk5|apply zk6|apply zk7|apply zk8|apply zk9) <;> intro hc)
  |(refine callP0 rfl ?_)
  |(refine callD0 rfl ?_)
  |(refine cP (k1) ?_)
  |(refine cD (k1) ?_)
  |(refine cF (k1) ?_)
  |(refine cP (k2) ?_)
  |(refine cD (k2) ?_)
  |(refine cF (k2) ?_)
  |(refine cP (kS) ?_)
  |(refine cD (kS) ?_)
  |(refine cF (kS) ?_)
  |(refine cP (kM) ?_)
  |(refine cD (kM) ?_)
  |(refine cF (kM) ?_)
  |(refine cP (awake8_f) ?_)
  |(refine cD (awake8_f) ?_)
  |(refine cF (awake8_f) ?_)
  | fail)
 exact ret_v
set_option maxHeartbeats 4000000 in
theorem right_law_f (r : Rc) (m : Mg) (hr : RcS r) (hm : (m.2.2.2.2.length : Int) ≤ 9223372036854775807) : FRet Tryd.prog 4 [aRc r,aMg m] [.c (.v (.bool true))] := by
 have k1 := Take_f r m hr.l hr.b hm
 have hn := Take_nil (r := r) (m := m)
 have hs := Take_sizes (r := r) (m := m)
 have kC := CheckReceiver_f (TakeV r m).2.1 hs.l hs.b
 have kO : ∀ o ∈ r.1,(TakeV r m).1 = 0 → FRet Tryd.prog 13 [aRc (TakeV r m).2.1,.f (.str o.1)] [.c (.v (.int .i64 (o.2.length : Int))),.c (.v (.bool true)),.c (.v (.int .i64 0))] := fun o ho h0 => by
  have k := Offset_f (TakeV r m).2.1 o.1 hs.l hs.b
  obtain ⟨h1,h2,h3⟩ := Take_right h0
  have hm2 := h3.sub o ho
  have hd : isDig o.1 = true := by rw [(h1.d.ok o ho).1];exact isDig_digV
  have e : OffsetV (TakeV r m).2.1 o.1 = (o.2.length,true,0) := by
   unfold OffsetV
   rw [if_neg (fun h => h (ckRc_iff.2 h3.ok)),if_neg (by rw [hd];decide),oGet_of h3.ok.d.rise hm2]
  rw [e] at k
  exact k
 have hE := Take_err (r := r) (m := m)
 have hT := fun h => (Take_right (r := r) (m := m) h).2.2
 generalize hV : TakeV r m = V at *
 have hl : V.1 ≠ 0 → V.2.1.1 = [] ∧ V.2.1.2 = [] ∧ V.2.2.1 = 0 := fun h => by rw [hE h];exact ⟨rfl,rfl,rfl⟩
 obtain ⟨q,⟨D2,P2⟩,a⟩ := V
 obtain ⟨D,P⟩ := r
 obtain ⟨mk,t,fr,sz,b⟩ := m
 dsimp only at *
 refine FCall.of_ax low_law8_WireTakesStayRight ?_
 dsimp only [l_law8_WireTakesStayRight,aRc,aMg,fMg,List.map,rInt] at k1 kC kO ⊢
 refine srun_sound 300 _ _ _ _ ?_
 by_cases h0 : q = 0
 case neg =>
  obtain ⟨h1,h2,h3⟩ := hl h0
  subst h1 h2
  have d1 := dcF h0
  have d2 : decide (((0 : Nat) : Int) = 0) = true := by decide
  clear kC kO hE hT hl
  replace hV := hide hV
  repeat' (first
   | (simp -implicitDefEqProofs only [*,frObs,frPts,List.map_nil,List.length_nil,zr,Nat.reduceAdd,Nat.reduceSub,Nat.reduceMul,Nat.reduceLT,Nat.reduceLeDiff,Nat.reduceEqDiff,Nat.reduceBEq,reduceIte,reduceCtorEq,Int.reduceLE,Int.reduceLT,Int.reduceToNat,Int.reduceEq,Int.reduceNe])
   | ((first|apply zk0|apply zk1|apply zk2|apply zk3|apply zk4|apply zk5|apply zk6|apply zk7|apply zk8|apply zk9) <;> intro hc)
   |(refine callP0 rfl ?_)
   |(refine callD0 rfl ?_)
   |(refine cP (k1) ?_)
   |(refine cD (k1) ?_)
   |(refine cF (k1) ?_)
   |(refine cP (awake8_f) ?_)
   |(refine cD (awake8_f) ?_)
   |(refine cF (awake8_f) ?_)
   | fail)
  exact ret_v
 subst h0
 have hT2 := hT rfl
 have hc : ckRc (D2,P2) = 0 := ckRc_iff.2 hT2.ok
 rw [hc] at kC
 have ha := hT2.dig
 dsimp only at ha
 replace hV := hide hV
 replace kO := hide kO
 clear hE hT hl hT2 hc
 have hDl := hr.l.1
 dsimp only at hDl
 repeat' (first
  | (simp -implicitDefEqProofs only [*,frObs,List.length_map,zr,Nat.reduceAdd,Nat.reduceSub,Nat.reduceMul,Nat.reduceLT,Nat.reduceLeDiff,Nat.reduceEqDiff,Nat.reduceBEq,reduceIte,reduceCtorEq,Int.reduceLE,Int.reduceLT,Int.reduceToNat,Int.reduceEq,Int.reduceNe])
  | ((first|apply zk0|apply zk1|apply zk2|apply zk3|apply zk4|apply zk5|apply zk6|apply zk7|apply zk8|apply zk9) <;> intro hc)
  |(refine callP0 rfl ?_)
  |(refine callD0 rfl ?_)
  |(refine cP (k1) ?_)
  |(refine cD (k1) ?_)
  |(refine cF (k1) ?_)
  | fail)
 refine ax_loopU (S := Nat) 82 [3,5,6,41,42] [3,5,6] (fun s => [(43,.f (.int .i64 s))]) (fun s => []) (fun s => s ≤ D.length) (fun s => D.length - s) (0) [] ?_ ?_ fun s hs => ?_
 ·exact Nat.zero_le _
 ·refine wk_i ?_ ?_ <;> simp only [frObs,zw,Nat.reduceEqDiff,Nat.reduceBEq,Nat.reduceLT,Nat.reduceLeDiff,reduceIte,reduceCtorEq]
 refine srun_sound 300 _ _ _ _ ?_
 rcases Nat.lt_or_ge s D.length with hlt | hge
 ·obtain ⟨x,hx⟩ := get_some hlt
  have h4 := inc64 hlt hDl
  have h2 := lt_t hlt
  have ko := kO.out x (List.mem_of_getElem? hx) rfl
  obtain ⟨xd,xb⟩ := x
  dsimp only [frObs] at ko
  repeat' (first
   | (simp -implicitDefEqProofs only [*,List.getElem?_map,Option.map_some,fOb,frB,List.length_map,zr,Nat.reduceAdd,Nat.reduceSub,Nat.reduceMul,Nat.reduceLT,Nat.reduceLeDiff,Nat.reduceEqDiff,Nat.reduceBEq,reduceIte,reduceCtorEq,Int.reduceLE,Int.reduceLT,Int.reduceToNat,Int.reduceEq,Int.reduceNe])
   | ((first|apply zk0|apply zk1|apply zk2|apply zk3|apply zk4|apply zk5|apply zk6|apply zk7|apply zk8|apply zk9) <;> intro hc)
   |(refine callP0 rfl ?_)
   |(refine callD0 rfl ?_)
   |(refine cP (ko) ?_)
   |(refine cD (ko) ?_)
   |(refine cF (ko) ?_)
   | fail)
  refine ⟨s + 1,hlt,by omega,?_⟩
  refine wk_i ?_ ?_ <;> simp only [frObs,zw,Nat.reduceEqDiff,Nat.reduceBEq,Nat.reduceLT,Nat.reduceLeDiff,reduceIte,reduceCtorEq]
 ·obtain rfl : s = D.length := by omega
  have h2 := lt_f hge
  clear hge hs
  dsimp only [frObs] at kC
  repeat' (first
   | (simp -implicitDefEqProofs only [*,zr,Nat.reduceAdd,Nat.reduceSub,Nat.reduceMul,Nat.reduceLT,Nat.reduceLeDiff,Nat.reduceEqDiff,Nat.reduceBEq,reduceIte,reduceCtorEq,Int.reduceLE,Int.reduceLT,Int.reduceToNat,Int.reduceEq,Int.reduceNe])
   | ((first|apply zk0|apply zk1|apply zk2|apply zk3|apply zk4|apply zk5|apply zk6|apply zk7|apply zk8|apply zk9) <;> intro hc)
   |(refine callP0 rfl ?_)
   |(refine callD0 rfl ?_)
   |(refine cP (kC) ?_)
   |(refine cD (kC) ?_)
   |(refine cF (kC) ?_)
   |(refine cP (awake8_f) ?_)
   |(refine cD (awake8_f) ?_)
   |(refine cF (awake8_f) ?_)
   | fail)
  exact ret_v
end Go.Proofs.YtjacnfjlocajoaaDoor
