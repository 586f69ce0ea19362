/-
  cache.Fits. No statement of the seat is proved here; no conditions.
-/
import Derived.Test.YtanhelgblnmdcaaDoorStb
import Derived.Test.YtanhelgblnmdcaaDoorFrz2
import Derived.Test.YtanhelgblnmdcaaDoorLowA
import Derived.Test.YtanhelgblnmdcaaDoorCaU
namespace Go.Proofs.YtanhelgblnmdcaaDoor
open Go.RowKit Go.Shelf
set_option linter.unusedVariables false
set_option linter.unusedSimpArgs false
set_option maxRecDepth 100000

theorem ret_0 {H : Heap} : Rets [] (.tup []) H := ⟨[],rfl,rfl,List.nodup_nil⟩
theorem insertion_0 (fn : FuncId) : FRet Tryd.prog 85 [.f (.fr 5 []),.f (.int .i64 0),.f (.int .i64 0),.f (.fn (.func fn))] [] := by
 refine FCall.of_ax low_slices_insertionSortCmpFunc_api_Blob ?_
 dsimp only [l_slices_insertionSortCmpFunc_api_Blob]
 refine srun_sound 300 _ _ _ _ ?_
 have w1 : IntKind.i64.wrap (0 + 1) = 1 := by decide
 have w2 : IntKind.i64.wrap 1 = 1 := by decide
 repeat' (first
  | (simp -implicitDefEqProofs only [*,Int.reduceAdd,zr,Nat.reduceAdd,Nat.reduceSub,Nat.reduceMul,Nat.reduceLT,Nat.reduceLeDiff,Nat.reduceEqDiff,Nat.reduceBEq,reduceIte,reduceCtorEq,Int.reduceLE,Int.reduceLT,Int.reduceToNat,Int.reduceEq,Int.reduceNe])
  | ((first|apply zk0|apply zk1|apply zk2|apply zk3|apply zk4|apply zk5|apply zk6|apply zk7|apply zk8|apply zk9) <;> intro hc)
  |(refine callP0 rfl ?_)
  |(refine callD0 rfl ?_)
  | fail)
 refine ax_loopU (S := Nat) 53 [0,1,2,3] [] (fun s => [(8,.f (.int .i64 1))]) (fun s => []) (fun s => True) (fun s => 0) (0) [] ?_ ?_ fun s hs => ?_
 ·trivial
 ·refine wk_i ?_ ?_ <;> simp only [zw,Nat.reduceEqDiff,Nat.reduceBEq,Nat.reduceLT,Nat.reduceLeDiff,reduceIte,reduceCtorEq]
 refine srun_sound 300 _ _ _ _ ?_
 have h2 : decide ((1 : Int) < 0) = false := by decide
 repeat' (first
  | (simp -implicitDefEqProofs only [*,zr,Nat.reduceAdd,Nat.reduceSub,Nat.reduceMul,Nat.reduceLT,Nat.reduceLeDiff,Nat.reduceEqDiff,Nat.reduceBEq,reduceIte,reduceCtorEq,Int.reduceLE,Int.reduceLT,Int.reduceToNat,Int.reduceEq,Int.reduceNe])
  | ((first|apply zk0|apply zk1|apply zk2|apply zk3|apply zk4|apply zk5|apply zk6|apply zk7|apply zk8|apply zk9) <;> intro hc)
  |(refine callP0 rfl ?_)
  |(refine callD0 rfl ?_)
  | fail)
 exact ret_0
theorem stable_0 (fn : FuncId) : FRet Tryd.prog 80 [.f (.fr 5 []),.f (.int .i64 0),.f (.fn (.func fn))] [] := by
 refine FCall.of_ax low_slices_stableCmpFunc_api_Blob ?_
 dsimp only [l_slices_stableCmpFunc_api_Blob]
 refine srun_sound 300 _ _ _ _ ?_
 repeat' (first
  | (simp -implicitDefEqProofs only [*,zr,Nat.reduceAdd,Nat.reduceSub,Nat.reduceMul,Nat.reduceLT,Nat.reduceLeDiff,Nat.reduceEqDiff,Nat.reduceBEq,reduceIte,reduceCtorEq,Int.reduceLE,Int.reduceLT,Int.reduceToNat,Int.reduceEq,Int.reduceNe])
  | ((first|apply zk0|apply zk1|apply zk2|apply zk3|apply zk4|apply zk5|apply zk6|apply zk7|apply zk8|apply zk9) <;> intro hc)
  |(refine callP0 rfl ?_)
  |(refine callD0 rfl ?_)
  | fail)
 refine ax_loopU (S := Nat) 63 [0,1,2,6] [] (fun s => [(7,.f (.int .i64 0)),(8,.f (.int .i64 20))]) (fun s => []) (fun s => True) (fun s => 0) (0) [] ?_ ?_ fun s hs => ?_
 ·trivial
 ·refine wk_i ?_ ?_ <;> simp only [zw,Nat.reduceEqDiff,Nat.reduceBEq,Nat.reduceLT,Nat.reduceLeDiff,reduceIte,reduceCtorEq]
 refine srun_sound 300 _ _ _ _ ?_
 repeat' (first
  | (simp -implicitDefEqProofs only [*,zr,Nat.reduceAdd,Nat.reduceSub,Nat.reduceMul,Nat.reduceLT,Nat.reduceLeDiff,Nat.reduceEqDiff,Nat.reduceBEq,reduceIte,reduceCtorEq,Int.reduceLE,Int.reduceLT,Int.reduceToNat,Int.reduceEq,Int.reduceNe])
  | ((first|apply zk0|apply zk1|apply zk2|apply zk3|apply zk4|apply zk5|apply zk6|apply zk7|apply zk8|apply zk9) <;> intro hc)
  |(refine callP0 rfl ?_)
  |(refine callD0 rfl ?_)
  |(refine cP (insertion_0 fn) ?_)
  |(refine cD (insertion_0 fn) ?_)
  |(refine cF (insertion_0 fn) ?_)
  |(refine cO (insertion_0 fn) ?_)
  | fail)
 refine ax_loopU (S := Nat) 63 [0,1,2] [] (fun s => [(6,.f (.int .i64 20))]) (fun s => []) (fun s => True) (fun s => 0) (0) [] ?_ ?_ fun s hs => ?_
 ·trivial
 ·refine wk_i ?_ ?_ <;> simp only [zw,Nat.reduceEqDiff,Nat.reduceBEq,Nat.reduceLT,Nat.reduceLeDiff,reduceIte,reduceCtorEq]
 refine srun_sound 300 _ _ _ _ ?_
 repeat' (first
  | (simp -implicitDefEqProofs only [*,zr,Nat.reduceAdd,Nat.reduceSub,Nat.reduceMul,Nat.reduceLT,Nat.reduceLeDiff,Nat.reduceEqDiff,Nat.reduceBEq,reduceIte,reduceCtorEq,Int.reduceLE,Int.reduceLT,Int.reduceToNat,Int.reduceEq,Int.reduceNe])
  | ((first|apply zk0|apply zk1|apply zk2|apply zk3|apply zk4|apply zk5|apply zk6|apply zk7|apply zk8|apply zk9) <;> intro hc)
  |(refine callP0 rfl ?_)
  |(refine callD0 rfl ?_)
  | fail)
 exact ret_0
theorem sortStable_0 (fn : FuncId) : FRet Tryd.prog 71 [.f (.fr 5 []),.f (.fn (.func fn))] [] := by
 refine FCall.of_ax low_slices_SortStableFunc_api_Blob_api_Blob ?_
 dsimp only [l_slices_SortStableFunc_api_Blob_api_Blob]
 refine srun_sound 300 _ _ _ _ ?_
 repeat' (first
  | (simp -implicitDefEqProofs only [*,zr,Nat.reduceAdd,Nat.reduceSub,Nat.reduceMul,Nat.reduceLT,Nat.reduceLeDiff,Nat.reduceEqDiff,Nat.reduceBEq,reduceIte,reduceCtorEq,Int.reduceLE,Int.reduceLT,Int.reduceToNat,Int.reduceEq,Int.reduceNe])
  | ((first|apply zk0|apply zk1|apply zk2|apply zk3|apply zk4|apply zk5|apply zk6|apply zk7|apply zk8|apply zk9) <;> intro hc)
  |(refine callP0 rfl ?_)
  |(refine callD0 rfl ?_)
  |(refine cP (stable_0 fn) ?_)
  |(refine cD (stable_0 fn) ?_)
  |(refine cF (stable_0 fn) ?_)
  |(refine cO (stable_0 fn) ?_)
  | fail)
 exact ret_0
def cmpI (x y : Int) : Int := if x < y then -1 else if y < x then 1 else 0
theorem isNaN_f (x : Int) : FRet Tryd.prog 81 [.f (.int .i64 x)] [.c (.v (.bool false))] := by
 refine FCall.of_ax low_cmp_isNaN_int ?_
 dsimp only [l_cmp_isNaN_int]
 refine srun_sound 300 _ _ _ _ ?_
 have h : decide (x ≠ x) = false := dcF (by simp)
 have h1 : decide (¬ x = x) = false := dcF (by simp)
 repeat' (first
  | (simp -implicitDefEqProofs only [*,zr,Nat.reduceAdd,Nat.reduceSub,Nat.reduceMul,Nat.reduceLT,Nat.reduceLeDiff,Nat.reduceEqDiff,Nat.reduceBEq,reduceIte,reduceCtorEq,Int.reduceLE,Int.reduceLT,Int.reduceToNat,Int.reduceEq,Int.reduceNe])
  | ((first|apply zk0|apply zk1|apply zk2|apply zk3|apply zk4|apply zk5|apply zk6|apply zk7|apply zk8|apply zk9) <;> intro hc)
  |(refine callP0 rfl ?_)
  |(refine callD0 rfl ?_)
  | fail)
 exact ret_v
theorem cmpInt_f (x y : Int) : FRet Tryd.prog 73 [.f (.int .i64 x),.f (.int .i64 y)] [.c (.v (.int .i64 (cmpI x y)))] := by
 refine FCall.of_ax low_cmp_Compare_int ?_
 dsimp only [l_cmp_Compare_int]
 refine srun_sound 300 _ _ _ _ ?_
 unfold cmpI
 rcases Int.lt_trichotomy x y with h | h | h
 ·have d1 : decide (x < y) = true := dcT h
  rw [if_pos h]
  replace h := hide h
  repeat' (first
   | (simp -implicitDefEqProofs only [*,zr,Nat.reduceAdd,Nat.reduceSub,Nat.reduceMul,Nat.reduceLT,Nat.reduceLeDiff,Nat.reduceEqDiff,Nat.reduceBEq,reduceIte,reduceCtorEq,Int.reduceLE,Int.reduceLT,Int.reduceToNat,Int.reduceEq,Int.reduceNe])
   | ((first|apply zk0|apply zk1|apply zk2|apply zk3|apply zk4|apply zk5|apply zk6|apply zk7|apply zk8|apply zk9) <;> intro hc)
   |(refine callP0 rfl ?_)
   |(refine callD0 rfl ?_)
   |(refine cP (isNaN_f x) ?_)
   |(refine cD (isNaN_f x) ?_)
   |(refine cF (isNaN_f x) ?_)
   |(refine cO (isNaN_f x) ?_)
   |(refine cP (isNaN_f y) ?_)
   |(refine cD (isNaN_f y) ?_)
   |(refine cF (isNaN_f y) ?_)
   |(refine cO (isNaN_f y) ?_)
   | fail)
  all_goals exact ret_v
 ·subst h
  have d1 : decide (x < x) = false := dcF (by omega)
  have d2 : decide (x > x) = false := dcF (by omega)
  rw [if_neg (by omega),if_neg (by omega)]
  repeat' (first
   | (simp -implicitDefEqProofs only [*,zr,Nat.reduceAdd,Nat.reduceSub,Nat.reduceMul,Nat.reduceLT,Nat.reduceLeDiff,Nat.reduceEqDiff,Nat.reduceBEq,reduceIte,reduceCtorEq,Int.reduceLE,Int.reduceLT,Int.reduceToNat,Int.reduceEq,Int.reduceNe])
   | ((first|apply zk0|apply zk1|apply zk2|apply zk3|apply zk4|apply zk5|apply zk6|apply zk7|apply zk8|apply zk9) <;> intro hc)
   |(refine callP0 rfl ?_)
   |(refine callD0 rfl ?_)
   |(refine cP (isNaN_f x) ?_)
   |(refine cD (isNaN_f x) ?_)
   |(refine cF (isNaN_f x) ?_)
   |(refine cO (isNaN_f x) ?_)
   | fail)
  all_goals exact ret_v
 ·have d1 : decide (x < y) = false := dcF (by omega)
  have d2 : decide (y < x) = true := dcT h
  have d3 : decide (x > y) = true := dcT h
  rw [if_neg (by omega),if_pos h]
  replace h := hide h
  repeat' (first
   | (simp -implicitDefEqProofs only [*,zr,Nat.reduceAdd,Nat.reduceSub,Nat.reduceMul,Nat.reduceLT,Nat.reduceLeDiff,Nat.reduceEqDiff,Nat.reduceBEq,reduceIte,reduceCtorEq,Int.reduceLE,Int.reduceLT,Int.reduceToNat,Int.reduceEq,Int.reduceNe])
   | ((first|apply zk0|apply zk1|apply zk2|apply zk3|apply zk4|apply zk5|apply zk6|apply zk7|apply zk8|apply zk9) <;> intro hc)
   |(refine callP0 rfl ?_)
   |(refine callD0 rfl ?_)
   |(refine cP (isNaN_f x) ?_)
   |(refine cD (isNaN_f x) ?_)
   |(refine cF (isNaN_f x) ?_)
   |(refine cO (isNaN_f x) ?_)
   |(refine cP (isNaN_f y) ?_)
   |(refine cD (isNaN_f y) ?_)
   |(refine cF (isNaN_f y) ?_)
   |(refine cO (isNaN_f y) ?_)
   | fail)
  all_goals exact ret_v
theorem leav2_f (x y : Blob) : FRet Tryd.prog 72 [.agg ((fBlob x).map .f),.agg ((fBlob y).map .f)] [.c (.v (.int .i64 (cmpI x.2.2.1 y.2.2.1)))] := by
 obtain ⟨x1,x2,x3,x4,x5⟩ := x
 obtain ⟨y1,y2,y3,y4,y5⟩ := y
 refine FCall.of_ax low_cache_leaving_c2 ?_
 dsimp only [l_cache_leaving_c2,fBlob,List.map_cons,List.map_nil]
 refine srun_sound 300 _ _ _ _ ?_
 repeat' (first
  | (simp -implicitDefEqProofs only [*,zr,Nat.reduceAdd,Nat.reduceSub,Nat.reduceMul,Nat.reduceLT,Nat.reduceLeDiff,Nat.reduceEqDiff,Nat.reduceBEq,reduceIte,reduceCtorEq,Int.reduceLE,Int.reduceLT,Int.reduceToNat,Int.reduceEq,Int.reduceNe])
  | ((first|apply zk0|apply zk1|apply zk2|apply zk3|apply zk4|apply zk5|apply zk6|apply zk7|apply zk8|apply zk9) <;> intro hc)
  |(refine callP0 rfl ?_)
  |(refine callD0 rfl ?_)
  |(refine cP (cmpInt_f x3 y3) ?_)
  |(refine cD (cmpInt_f x3 y3) ?_)
  |(refine cF (cmpInt_f x3 y3) ?_)
  |(refine cO (cmpInt_f x3 y3) ?_)
  | fail)
 all_goals exact ret_v
def ltB (x y : Blob) : Bool := decide (x.2.2.1 < y.2.2.1) || (decide (x.2.2.1 = y.2.2.1) && strLt x.1 y.1)
theorem ltB_iff {x y : Blob} : ltB x y = true ↔ x.2.2.1 < y.2.2.1 ∨ (x.2.2.1 = y.2.2.1 ∧ strLt x.1 y.1 = true) := by
 unfold ltB
 rw [Bool.or_eq_true,Bool.and_eq_true,decide_eq_true_eq,decide_eq_true_eq]
theorem cmpI_neg {x y : Int} : cmpI x y < 0 ↔ x < y := by
 unfold cmpI
 split
 ·simp_all
 ·split <;> simp_all
def RiseB (l : List Blob) : Prop := l.Pairwise fun x y => strLt x.1 y.1 = true
theorem RiseB.lt {l : List Blob} (h : RiseB l) {i j : Nat} {x y : Blob} (hij : i < j) (hx : l[i]? = some x) (hy : l[j]? = some y) : strLt x.1 y.1 = true := by
 obtain ⟨b1,b2⟩ := List.getElem?_eq_some_iff.1 hx
 obtain ⟨c1,c2⟩ := List.getElem?_eq_some_iff.1 hy
 have := List.pairwise_iff_getElem.1 h i j b1 c1 hij
 rw [b2,c2] at this;exact this
theorem RiseB.inj {l : List Blob} (h : RiseB l) {x y : Blob} (hx : x ∈ l) (hy : y ∈ l) (he : x.1 = y.1) : x = y := by
 obtain ⟨i,hi⟩ := List.mem_iff_getElem?.1 hx
 obtain ⟨j,hj⟩ := List.mem_iff_getElem?.1 hy
 rcases Nat.lt_trichotomy i j with h1 | h1 | h1
 ·exact absurd he (strLt_ne (h.lt h1 hi hj))
 ·subst h1;rw [hi] at hj;exact Option.some.inj hj
 ·exact absurd he.symm (strLt_ne (h.lt h1 hj hi))
theorem ordB {l : List Blob} (h : RiseB l) : OrdOn ltB l := by
 refine ⟨?_,?_,?_,?_⟩
 ·intro x y z _ _ _ h1 h2
  rw [ltB_iff] at *
  rcases h1 with h1 | ⟨h1,h1'⟩ <;> rcases h2 with h2 | ⟨h2,h2'⟩
  ·left;omega
  ·left;omega
  ·left;omega
  ·right;exact ⟨by omega,strLt_trans h1' h2'⟩
 ·intro x y _ _ h1
  rw [Bool.eq_false_iff]
  intro h2
  rw [ltB_iff] at h1 h2
  rcases h1 with h1 | ⟨h1,h1'⟩ <;> rcases h2 with h2 | ⟨h2,h2'⟩
  ·omega
  ·omega
  ·omega
  ·rw [strLt_asymm h1'] at h2';cases h2'
 ·intro x y hx hy h1
  rw [Bool.eq_false_iff] at h1
  rcases Int.lt_trichotomy x.2.2.1 y.2.2.1 with e | e | e
  ·exact absurd (ltB_iff.2 (Or.inl e)) h1
  ·rcases hs : strLt x.1 y.1 with _ | _
   ·rcases strLt_total hs with e2 | e2
    ·exact Or.inl (h.inj hx hy e2)
    ·exact Or.inr (ltB_iff.2 (Or.inr ⟨e.symm,e2⟩))
   ·exact absurd (ltB_iff.2 (Or.inr ⟨e,hs⟩)) h1
  ·exact Or.inr (ltB_iff.2 (Or.inl e))
 ·refine List.Pairwise.imp ?_ h
  intro x y hxy e
  subst e
  rw [strLt_irrefl] at hxy;cases hxy
theorem keyB {l : List Blob} (h : RiseB l) (i j : Nat) (x y : Blob) (hij : i < j) (hy : l[i]? = some y) (hx : l[j]? = some x) : decide (cmpI x.2.2.1 y.2.2.1 < 0) = ltB x y := by
 have h1 := strLt_asymm (h.lt hij hy hx)
 unfold ltB
 rw [h1,Bool.and_false,Bool.or_false]
 exact decide_eq_decide.2 cmpI_neg
theorem sortBlobs_f (M : List Blob) (hn0 : 0 < M.length) (hl : M.length ≤ 1000000) (h : RiseB M) :
  FRetI Tryd.prog 71 5 M.length ((cellsB M).map .v) [] [.f (.fn (.func 72))] ((cellsB (sortT ltB M)).map .v) [] :=
 sortStable_f M ltB (fun x y => cmpI x.2.2.1 y.2.2.1) 72 leav2_f hn0 hl (ordB h) (fun i j x y hij hy hx => keyB h i j x y hij hy hx)
theorem leav1_f (b : Blob) (at_ : Int) : FRet Tryd.prog 70 ([.agg ((fBlob b).map .f)] ++ [.f (.fp [.int .i64 at_])]) [.c (.v (.bool (heldB b at_)))] := by
 refine FCall.of_ax low_cache_leaving_c1 ?_
 dsimp only [l_cache_leaving_c1,fBlob,List.map_cons,List.map_nil,List.cons_append,List.nil_append]
 refine srun_sound 300 _ _ _ _ ?_
 repeat' (first
  | (simp -implicitDefEqProofs only [*,zr,Nat.reduceAdd,Nat.reduceSub,Nat.reduceMul,Nat.reduceLT,Nat.reduceLeDiff,Nat.reduceEqDiff,Nat.reduceBEq,reduceIte,reduceCtorEq,Int.reduceLE,Int.reduceLT,Int.reduceToNat,Int.reduceEq,Int.reduceNe])
  | ((first|apply zk0|apply zk1|apply zk2|apply zk3|apply zk4|apply zk5|apply zk6|apply zk7|apply zk8|apply zk9) <;> intro hc)
  |(refine callP0 rfl ?_)
  |(refine callD0 rfl ?_)
  |(refine cP (held_f b at_) ?_)
  |(refine cD (held_f b at_) ?_)
  |(refine cF (held_f b at_) ?_)
  |(refine cO (held_f b at_) ?_)
  | fail)
 exact ret_v
def leavV (bl : List Blob) (at_ : Int) : List Blob := sortT ltB (keepL (fun b : Blob => heldB b at_) bl)
theorem keepL_rise {p : Blob → Bool} {l : List Blob} (h : RiseB l) : RiseB (keepL p l) := List.Pairwise.sublist List.filter_sublist h
theorem leaving_f (room lease : Int) (bl : List Blob) (en : List Entry) (at_ : Int) (hb : bl.length ≤ 1000000) (hr : RiseB bl) : FRet Tryd.prog 56 [aCache (room,lease,bl,en),.f (.int .i64 at_)] [.c (.own 5 (leavV bl at_).length (rowF fBlob (leavV bl at_)))] := by
 refine FCall.of_ax low_cache_leaving ?_
 dsimp only [l_cache_leaving,aCache]
 refine srun_sound 300 _ _ _ _ ?_
 repeat' (first
  | (simp -implicitDefEqProofs only [*,zr,Nat.reduceAdd,Nat.reduceSub,Nat.reduceMul,Nat.reduceLT,Nat.reduceLeDiff,Nat.reduceEqDiff,Nat.reduceBEq,reduceIte,reduceCtorEq,Int.reduceLE,Int.reduceLT,Int.reduceToNat,Int.reduceEq,Int.reduceNe])
  | ((first|apply zk0|apply zk1|apply zk2|apply zk3|apply zk4|apply zk5|apply zk6|apply zk7|apply zk8|apply zk9) <;> intro hc)
  |(refine callP0 rfl ?_)
  |(refine callD0 rfl ?_)
  |(refine cP (cloneB_f bl hb) ?_)
  |(refine cD (cloneB_f bl hb) ?_)
  |(refine cF (cloneB_f bl hb) ?_)
  |(refine cO (cloneB_f bl hb) ?_)
  | fail)
 refine ax_weakA [] (nw := []) (n := 14) (el := [(8,.sl 8 1 5 0 bl.length),(9,.clo (.func 70) [.f (.fp [.int .i64 at_])])]) (hl := [(8,1,.cells ((rowF fBlob bl).map .f))]) rfl ?_ ?_
 ·refine wk_i ?_ ?_ <;> simp only [so_mf,mapOfH_some,so_ptf,so_cc,so_ff',cellsOf_some,List.drop_zero,List.take_succ_cons,List.take_zero,Nat.zero_add,Nat.le_refl,zw,Nat.reduceEqDiff,Nat.reduceBEq,Nat.reduceLT,Nat.reduceLeDiff,reduceIte,reduceCtorEq]
 refine callM rfl (delf_blob bl _ [.f (.fp [.int .i64 at_])] (fun b => heldB b at_) hb (fun x _ => leav1_f x at_) rfl) rfl [.sl 8 1 5 0 bl.length] [.clo (.func 70) [.f (.fp [.int .i64 at_])]] rfl ⟨.inr ⟨_,_,rfl,rfl,by rw [row_len (sz := 5) (fun _ => rfl)];exact Nat.le_refl _⟩,rfl⟩ (by simp [idsS]) (LeL.refl _) rfl (by first | exact free_mk rfl | exact free_mk (by simp)) ?_
 have hS := fun hne => sortBlobs_f (keepL (fun b : Blob => heldB b at_) bl) hne (Nat.le_trans (List.length_filter_le _ _) hb) (keepL_rise hr)
 have hL : (leavV bl at_).length = (keepL (fun b : Blob => heldB b at_) bl).length := sortT_len
 rw [hL]
 unfold leavV
 generalize keepL (fun b : Blob => heldB b at_) bl = K at *
 repeat' (first
  | (simp -implicitDefEqProofs only [*,zr,Nat.reduceAdd,Nat.reduceSub,Nat.reduceMul,Nat.reduceLT,Nat.reduceLeDiff,Nat.reduceEqDiff,Nat.reduceBEq,reduceIte,reduceCtorEq,Int.reduceLE,Int.reduceLT,Int.reduceToNat,Int.reduceEq,Int.reduceNe])
  | ((first|apply zk0|apply zk1|apply zk2|apply zk3|apply zk4|apply zk5|apply zk6|apply zk7|apply zk8|apply zk9) <;> intro hc)
  |(refine callP0 rfl ?_)
  |(refine callD0 rfl ?_)
  | fail)
 rcases Nat.eq_zero_or_pos K.length with h0 | hne
 ·obtain rfl : K = [] := List.eq_nil_of_length_eq_zero h0
  refine ax_cut (id := 10) (v := 1) (cs := []) (by rw [upd_same,List.map_append];rfl) ?_
  rw [upd_upd]
  refine ax_empty (t := 11) (id := 10) (ver := 1) (sz := 5) (off := 0) (cs := []) rfl rfl ?_
  dsimp only
  refine srun_sound 300 _ _ _ _ ?_
  clear hS hL h0
  repeat' (first
   | (simp -implicitDefEqProofs only [*,zr,Nat.reduceAdd,Nat.reduceSub,Nat.reduceMul,Nat.reduceLT,Nat.reduceLeDiff,Nat.reduceEqDiff,Nat.reduceBEq,reduceIte,reduceCtorEq,Int.reduceLE,Int.reduceLT,Int.reduceToNat,Int.reduceEq,Int.reduceNe])
   | ((first|apply zk0|apply zk1|apply zk2|apply zk3|apply zk4|apply zk5|apply zk6|apply zk7|apply zk8|apply zk9) <;> intro hc)
   |(refine callP0 rfl ?_)
   |(refine callD0 rfl ?_)
   |(refine cP (sortStable_0 72) ?_)
   |(refine cD (sortStable_0 72) ?_)
   |(refine cF (sortStable_0 72) ?_)
   |(refine cO (sortStable_0 72) ?_)
   | fail)
  exact ⟨[.sl 10 1 5 0 0],rfl,⟨.inr ⟨10,1,rfl,rfl,Nat.zero_le _⟩,rfl⟩,by simp [idsS]⟩
 ·refine ax_cut (id := 10) (v := 1) (cs := (rowF fBlob K).map .f) (by rw [upd_same,List.map_append]) ?_
  rw [upd_upd]
  refine callIm hne rfl (hS hne) rfl 10 1 ((cellsB K).map .f) [] [_] rfl rfl (rcsOk_v _) rfl (by rw [idsC_f];exact List.nodup_nil) (by rw [idsC_f];simp [idsS]) (LeL.refl _) rfl (by repeat (first|exact free_0 | exact free_mk (by simp) | refine free_upd rfl ?_)) ?_
  rw [putCs_v,putHcs_v,idsC_f]
  unfold cellsB
  have hZ : (sortT ltB K).length = K.length := sortT_len
  repeat' (first
   | (simp -implicitDefEqProofs only [*,zr,Nat.reduceAdd,Nat.reduceSub,Nat.reduceMul,Nat.reduceLT,Nat.reduceLeDiff,Nat.reduceEqDiff,Nat.reduceBEq,reduceIte,reduceCtorEq,Int.reduceLE,Int.reduceLT,Int.reduceToNat,Int.reduceEq,Int.reduceNe])
   | ((first|apply zk0|apply zk1|apply zk2|apply zk3|apply zk4|apply zk5|apply zk6|apply zk7|apply zk8|apply zk9) <;> intro hc)
   |(refine callP0 rfl ?_)
   |(refine callD0 rfl ?_)
   | fail)
  exact ⟨[.sl 10 1 5 0 K.length],rfl,⟨.inr ⟨10,1,rfl,rfl,by rw [row_len (sz := 5) (fun _ => rfl),hZ];exact Nat.le_refl _⟩,rfl⟩,by simp [idsS]⟩
theorem sumOf_f (l : List Blob) (hb : l.length ≤ 1000000) : FRet Tryd.prog 58 [.f (frBlobs l)] [.c (.v (.int .i64 (wsum l)))] := by
 refine FCall.of_ax low_cache_sumOf ?_
 dsimp only [l_cache_sumOf]
 refine srun_sound 300 _ _ _ _ ?_
 repeat' (first
  | (simp -implicitDefEqProofs only [*,zr,Nat.reduceAdd,Nat.reduceSub,Nat.reduceMul,Nat.reduceLT,Nat.reduceLeDiff,Nat.reduceEqDiff,Nat.reduceBEq,reduceIte,reduceCtorEq,Int.reduceLE,Int.reduceLT,Int.reduceToNat,Int.reduceEq,Int.reduceNe])
  | ((first|apply zk0|apply zk1|apply zk2|apply zk3|apply zk4|apply zk5|apply zk6|apply zk7|apply zk8|apply zk9) <;> intro hc)
  |(refine callP0 rfl ?_)
  |(refine callD0 rfl ?_)
  |(refine cP (used_f (0,0,l,[]) (by show (l.length : Int) ≤ _;omega)) ?_)
  |(refine cD (used_f (0,0,l,[]) (by show (l.length : Int) ≤ _;omega)) ?_)
  |(refine cF (used_f (0,0,l,[]) (by show (l.length : Int) ≤ _;omega)) ?_)
  |(refine cO (used_f (0,0,l,[]) (by show (l.length : Int) ≤ _;omega)) ?_)
  | fail)
 exact ret_v
theorem RiseB.take {bl : List Blob} (h : RiseB bl) (i : Nat) : RiseB (bl.take i) := List.Pairwise.sublist (List.take_sublist i bl) h
end Go.Proofs.YtanhelgblnmdcaaDoor
