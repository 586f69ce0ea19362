/-
  The cache's find, entryAt, missing, Used, Broken on the machine. No statement of the seat is proved here; no conditions.
-/
import Derived.Test.YtanhelgblnmdcaaDoorLowA
import Derived.Test.YtanhelgblnmdcaaDoorCaT
import Derived.Test.YtanhelgblnmdcaaDoorEngS
import Derived.Test.YtanhelgblnmdcaaDoorLay
namespace Go.Proofs.YtanhelgblnmdcaaDoor
open Go.RowKit
open Go.RowKit Go.Shelf
set_option linter.unusedVariables false
set_option linter.unusedSimpArgs false
set_option maxRecDepth 100000

theorem within_f (n l h : Int) : FRet Tryd.prog 15 [.f (.int .i64 n),.f (.int .i64 l),.f (.int .i64 h)] [.c (.v (.bool (inRg n l h)))] := by
 refine FCall.of_ax low_cache_within ?_
 dsimp only [l_cache_within]
 refine srun_sound 100 _ _ _ _ ?_
 repeat' (first
  | (simp -implicitDefEqProofs only [*,zr,Nat.reduceAdd,Nat.reduceSub,Nat.reduceMul,Nat.reduceLT,Nat.reduceLeDiff,Nat.reduceEqDiff,Nat.reduceBEq,reduceIte,reduceCtorEq,Int.reduceLE,Int.reduceLT,Int.reduceToNat,Int.reduceEq,Int.reduceNe])
  | ((first|apply zk0|apply zk1|apply zk2|apply zk3|apply zk4|apply zk5|apply zk6|apply zk7|apply zk8|apply zk9) <;> intro hc)
  |(refine callP0 rfl ?_)
  |(refine callD0 rfl ?_)
  | fail)
 all_goals (refine ret_ve ?_;simp only [inRg, *,Bool.true_and,Bool.false_and])
theorem isMoment_f (n : Int) : FRet Tryd.prog 18 [.f (.int .i64 n)] [.c (.v (.bool (inRg n 0 1000000000)))] := by
 refine FCall.of_ax low_cache_isMoment ?_
 dsimp only [l_cache_isMoment]
 refine srun_sound 100 _ _ _ _ ?_
 repeat' (first
  | (simp -implicitDefEqProofs only [*,zr,Nat.reduceAdd,Nat.reduceSub,Nat.reduceMul,Nat.reduceLT,Nat.reduceLeDiff,Nat.reduceEqDiff,Nat.reduceBEq,reduceIte,reduceCtorEq,Int.reduceLE,Int.reduceLT,Int.reduceToNat,Int.reduceEq,Int.reduceNe])
  | ((first|apply zk0|apply zk1|apply zk2|apply zk3|apply zk4|apply zk5|apply zk6|apply zk7|apply zk8|apply zk9) <;> intro hc)
  |(refine callP0 rfl ?_)
  |(refine callD0 rfl ?_)
  |(refine cP (within_f _ _ _) ?_)
  |(refine cD (within_f _ _ _) ?_)
  |(refine cF (within_f _ _ _) ?_)
  |(refine cO (within_f _ _ _) ?_)
  | fail)
 all_goals (refine ret_ve ?_;simp only [*])
section
variable (hDig : ∀ s : ByteArray,FRet Tryd.prog 8 [.f (.str s)] [.c (.v (.bool (isDig s)))])
include hDig
theorem checkDigests_f (l : List ByteArray) (most : Int) (hl : (l.length : Int) ≤ 9223372036854775807) : FRet Tryd.prog 17 [.f (frStrs l),.f (.int .i64 most)] [.c (.v (.int .i64 (ckDigsM l most)))] := by
 unfold ckDigsM
 refine FCall.of_ax low_cache_checkDigests ?_
 dsimp only [l_cache_checkDigests,frStrs]
 refine srun_sound 300 _ _ _ _ ?_
 repeat' (first
  | (simp -implicitDefEqProofs only [*,zr,Nat.reduceAdd,Nat.reduceSub,Nat.reduceMul,Nat.reduceLT,Nat.reduceLeDiff,Nat.reduceEqDiff,Nat.reduceBEq,reduceIte,reduceCtorEq,Int.reduceLE,Int.reduceLT,Int.reduceToNat,Int.reduceEq,Int.reduceNe])
  | ((first|apply zk0|apply zk1|apply zk2|apply zk3|apply zk4|apply zk5|apply zk6|apply zk7|apply zk8|apply zk9) <;> intro hc)
  |(refine callP0 rfl ?_)
  |(refine callD0 rfl ?_)
  | fail)
 ·rw [if_pos (of_decide_eq_true hc)]
  exact ret_v
 rw [if_neg (of_decide_eq_false hc)]
 clear hc
 refine ax_loopU (S := Nat) 33 [0,11,12] [] (fun s => [(13,.f (.int .i64 s))]) (fun s => []) (fun s => s ≤ l.length ∧ ∀ m,m < s → digErr l m = 0) (fun s => l.length - s) (0) [] ?_ ?_ fun s hs => ?_
 ·exact ⟨Nat.zero_le _,fe_0⟩
 ·refine wk_i ?_ ?_ <;> simp only [zw,Nat.reduceEqDiff,Nat.reduceBEq,Nat.reduceLT,Nat.reduceLeDiff,reduceIte,reduceCtorEq]
 obtain ⟨hi,hall⟩ := hs
 refine srun_sound 300 _ _ _ _ ?_
 rcases Nat.lt_or_ge s l.length with hlt | hge
 ·obtain ⟨x,hx⟩ := get_some hlt
  have h4 := inc64 hlt hl
  have hE := digErr_of hx
  have h2 := lt_t hlt
  have h6 := dec64' hlt hl
  obtain ⟨y,hy,hf⟩ := prev_of hx
  rw [hf] at hE
  clear hf
  unfold leS at hE
  repeat' (first
   | (simp -implicitDefEqProofs only [*,List.getElem?_map,Option.map_some,zr,Nat.reduceAdd,Nat.reduceSub,Nat.reduceMul,Nat.reduceLT,Nat.reduceLeDiff,Nat.reduceEqDiff,Nat.reduceBEq,reduceIte,reduceCtorEq,Int.reduceLE,Int.reduceLT,Int.reduceToNat,Int.reduceEq,Int.reduceNe])
   | ((first|apply zk0|apply zk1|apply zk2|apply zk3|apply zk4|apply zk5|apply zk6|apply zk7|apply zk8|apply zk9) <;> intro hc)
   |(refine callP0 rfl ?_)
   |(refine callD0 rfl ?_)
   |(refine cP (hDig _) ?_)
   |(refine cD (hDig _) ?_)
   |(refine cF (hDig _) ?_)
   |(refine cO (hDig _) ?_)
   | fail)
  all_goals simp only [*,if_true,if_false,Bool.false_eq_true] at hE
  all_goals first
   | exact ret_ve (by rw [ckDigs,fe_hit hall hlt (by rw [hE];decide),hE])
   |(refine ⟨s + 1,⟨hlt,fe_step hall hE⟩,by omega,?_⟩;refine wk_i ?_ ?_ <;> simp only [zw,Nat.reduceEqDiff,Nat.reduceBEq,Nat.reduceLT,Nat.reduceLeDiff,reduceIte,reduceCtorEq])
 ·simp -implicitDefEqProofs only [lt_f hge,zr,Nat.reduceAdd,Nat.reduceSub,Nat.reduceMul,Nat.reduceLT,Nat.reduceLeDiff,Nat.reduceEqDiff,Nat.reduceBEq,reduceIte,reduceCtorEq,Int.reduceLE,Int.reduceLT,Int.reduceToNat,Int.reduceEq,Int.reduceNe]
  obtain rfl : s = l.length := by omega
  rw [ckDigs,fe_none hall]
  exact ret_v
theorem checkBlobs_f (l : List Blob) (room : Int) (hl : (l.length : Int) ≤ 9223372036854775807) : FRet Tryd.prog 16 [.f (frBlobs l),.f (.int .i64 room)] [.c (.v (.int .i64 (ckBlobs l room)))] := by
 refine FCall.of_ax low_cache_checkBlobs ?_
 dsimp only [l_cache_checkBlobs,frBlobs]
 refine srun_sound 300 _ _ _ _ ?_
 repeat' (first
  | (simp -implicitDefEqProofs only [*,zr,Nat.reduceAdd,Nat.reduceSub,Nat.reduceMul,Nat.reduceLT,Nat.reduceLeDiff,Nat.reduceEqDiff,Nat.reduceBEq,reduceIte,reduceCtorEq,Int.reduceLE,Int.reduceLT,Int.reduceToNat,Int.reduceEq,Int.reduceNe])
  | ((first|apply zk0|apply zk1|apply zk2|apply zk3|apply zk4|apply zk5|apply zk6|apply zk7|apply zk8|apply zk9) <;> intro hc)
  |(refine callP0 rfl ?_)
  |(refine callD0 rfl ?_)
  | fail)
 ·rw [ckBlobs,if_pos (of_decide_eq_true hc)]
  exact ret_v
 have h30 : l.length ≤ 3000 := by simp at hc;omega
 rw [ckBlobs,if_neg (of_decide_eq_false hc)]
 clear hc
 refine ax_loopU (S := Nat) 68 [0,1,11,12] [] (fun s => [(13,.f (.int .i64 s)),(5,.f (.int .i64 (sumSz (l.take s))))]) (fun s => []) (fun s => s ≤ l.length ∧ ∀ m,m < s → blobErr l m = 0) (fun s => l.length - s) (0) [] ?_ ?_ fun s hs => ?_
 ·exact ⟨Nat.zero_le _,fe_0⟩
 ·refine wk_i ?_ ?_ <;> simp only [List.take_zero,sumSz,zw,Nat.reduceEqDiff,Nat.reduceBEq,Nat.reduceLT,Nat.reduceLeDiff,reduceIte,reduceCtorEq]
 obtain ⟨hi,hall⟩ := hs
 refine srun_sound 300 _ _ _ _ ?_
 have hr := take_range hi hall
 rcases Nat.lt_or_ge s l.length with hlt | hge
 ·obtain ⟨x,hx⟩ := get_some hlt
  have h4 := inc64 hlt hl
  have hE := blobErr_of hx
  have hsum := sum_snoc hx
  have hb := sum_range hr
  obtain ⟨xd,xs,xu,xn,xp⟩ := x
  simp only [leS] at hE hsum
  have hwr : blobErr l s = 0 → IntKind.i64.wrap (sumSz (l.take s) + xs) = sumSz (l.take (s + 1)) := fun h => by
   have h1 := (blobErr_zero hx h).2
   rw [hsum,wrap64]
   ·simp only at h1;omega
   ·simp only at h1;simp only [List.length_take] at hb;omega
  clear hr hb hsum
  have h2 := lt_t hlt
  have h6 := dec64' hlt hl
  obtain ⟨y,hy,hf⟩ := prev_of hx
  rw [hf] at hE
  clear hf
  obtain ⟨yd,ys,yu,yn,yp⟩ := y
  simp only at hE
  repeat' (first
   | (simp -implicitDefEqProofs only [*,List.getElem?_map,Option.map_some,fBlob,zr,Nat.reduceAdd,Nat.reduceSub,Nat.reduceMul,Nat.reduceLT,Nat.reduceLeDiff,Nat.reduceEqDiff,Nat.reduceBEq,reduceIte,reduceCtorEq,Int.reduceLE,Int.reduceLT,Int.reduceToNat,Int.reduceEq,Int.reduceNe])
   | ((first|apply zk0|apply zk1|apply zk2|apply zk3|apply zk4|apply zk5|apply zk6|apply zk7|apply zk8|apply zk9) <;> intro hc)
   |(refine callP0 rfl ?_)
   |(refine callD0 rfl ?_)
   |(refine cP (hDig _) ?_)
   |(refine cD (hDig _) ?_)
   |(refine cF (hDig _) ?_)
   |(refine cO (hDig _) ?_)
   |(refine cP (within_f _ _ _) ?_)
   |(refine cD (within_f _ _ _) ?_)
   |(refine cF (within_f _ _ _) ?_)
   |(refine cO (within_f _ _ _) ?_)
   |(refine cP (isMoment_f _) ?_)
   |(refine cD (isMoment_f _) ?_)
   |(refine cF (isMoment_f _) ?_)
   |(refine cO (isMoment_f _) ?_)
   | fail)
  all_goals simp only [*,if_true,if_false,Bool.false_eq_true,Bool.true_and,Bool.and_true,Bool.false_and,Bool.and_false] at hE
  all_goals first
   | exact ret_ve (by rw [fe_hit hall hlt (by rw [hE];decide),hE];rfl)
   |(refine ⟨s + 1,⟨hlt,fe_step hall hE⟩,by omega,?_⟩;refine wk_i ?_ ?_ <;> simp only [zw,Nat.reduceEqDiff,Nat.reduceBEq,Nat.reduceLT,Nat.reduceLeDiff,reduceIte,reduceCtorEq])
 ·obtain rfl : s = l.length := by omega
  rw [fe_none hall,List.take_length]
  have h2 := lt_f hge
  simp only [ne_eq,not_true_eq_false,if_false]
  repeat' (first
   | (simp -implicitDefEqProofs only [*,zr,Nat.reduceAdd,Nat.reduceSub,Nat.reduceMul,Nat.reduceLT,Nat.reduceLeDiff,Nat.reduceEqDiff,Nat.reduceBEq,reduceIte,reduceCtorEq,Int.reduceLE,Int.reduceLT,Int.reduceToNat,Int.reduceEq,Int.reduceNe])
   | ((first|apply zk0|apply zk1|apply zk2|apply zk3|apply zk4|apply zk5|apply zk6|apply zk7|apply zk8|apply zk9) <;> intro hc)
   |(refine callP0 rfl ?_)
   |(refine callD0 rfl ?_)
   | fail)
  all_goals refine ret_ve ?_
  ·rw [if_pos (of_decide_eq_true hc)]
  ·rw [if_neg (of_decide_eq_false hc)]
def CBound (c : Cache) : Prop := (c.2.2.1.length : Int) ≤ 9223372036854775807 ∧ (c.2.2.2.length : Int) ≤ 9223372036854775807 ∧ ∀ e ∈ c.2.2.2,(e.2.1.length : Int) ≤ 9223372036854775807
theorem CheckCache_f (c : Cache) (hb : CBound c) : FRet Tryd.prog 9 [aCache c] [.c (.v (.int .i64 (ckCache c)))] := by
 obtain ⟨room,lease,bl,en⟩ := c
 obtain ⟨hb1,hb2,hb3⟩ := hb
 simp only at hb1 hb2 hb3
 refine FCall.of_ax low_cache_CheckCache ?_
 dsimp only [l_cache_CheckCache,aCache]
 unfold ckCache
 dsimp only
 refine srun_sound 300 _ _ _ _ ?_
 repeat' (first
  | (simp -implicitDefEqProofs only [*,frEntries,frBlobs,frStrs,zr,Nat.reduceAdd,Nat.reduceSub,Nat.reduceMul,Nat.reduceLT,Nat.reduceLeDiff,Nat.reduceEqDiff,Nat.reduceBEq,reduceIte,reduceCtorEq,Int.reduceLE,Int.reduceLT,Int.reduceToNat,Int.reduceEq,Int.reduceNe])
  | ((first|apply zk0|apply zk1|apply zk2|apply zk3|apply zk4|apply zk5|apply zk6|apply zk7|apply zk8|apply zk9) <;> intro hc)
  |(refine callP0 rfl ?_)
  |(refine callD0 rfl ?_)
  |(refine cP (within_f _ _ _) ?_)
  |(refine cD (within_f _ _ _) ?_)
  |(refine cF (within_f _ _ _) ?_)
  |(refine cO (within_f _ _ _) ?_)
  |(refine cP (checkBlobs_f hDig _ _ hb1) ?_)
  |(refine cD (checkBlobs_f hDig _ _ hb1) ?_)
  |(refine cF (checkBlobs_f hDig _ _ hb1) ?_)
  |(refine cO (checkBlobs_f hDig _ _ hb1) ?_)
  | fail)
 all_goals try (refine ret_ve ?_;simp_all;done)
 have hR : (if ckBlobs bl room ≠ 0 then ckBlobs bl room else if (1000 : Int) < en.length then 2 else firstErr (entErr en) 0 en.length) = firstErr (entErr en) 0 en.length := by
  rw [if_neg (by simp_all),if_neg (of_decide_eq_false hc)]
 refine ax_loopU (S := Nat) 66 [1,30,31] [1] (fun s => [(32,.f (.int .i64 s))]) (fun s => []) (fun s => s ≤ en.length ∧ ∀ m,m < s → entErr en m = 0) (fun s => en.length - s) (0) [] ?_ ?_ fun s hs => ?_
 ·exact ⟨Nat.zero_le _,fe_0⟩
 ·refine wk_i ?_ ?_ <;> simp only [zw,Nat.reduceEqDiff,Nat.reduceBEq,Nat.reduceLT,Nat.reduceLeDiff,reduceIte,reduceCtorEq]
 obtain ⟨hi,hall⟩ := hs
 refine srun_sound 300 _ _ _ _ ?_
 rcases Nat.lt_or_ge s en.length with hlt | hge
 ·obtain ⟨x,hx⟩ := get_some hlt
  have h4 := inc64 hlt hb2
  have hE := entErr_of hx
  have hxl := hb3 x (List.mem_of_getElem? hx)
  obtain ⟨xk,xr,xu⟩ := x
  simp only [leS] at hE hxl
  have h2 := lt_t hlt
  have h6 := dec64' hlt hb2
  obtain ⟨y,hy,hf⟩ := prev_of hx
  rw [hf] at hE
  clear hf
  obtain ⟨yk,yr,yu⟩ := y
  simp only at hE
  repeat' (first
   | (simp -implicitDefEqProofs only [*,List.getElem?_map,Option.map_some,fEntry,frStrs,zr,Nat.reduceAdd,Nat.reduceSub,Nat.reduceMul,Nat.reduceLT,Nat.reduceLeDiff,Nat.reduceEqDiff,Nat.reduceBEq,reduceIte,reduceCtorEq,Int.reduceLE,Int.reduceLT,Int.reduceToNat,Int.reduceEq,Int.reduceNe])
   | ((first|apply zk0|apply zk1|apply zk2|apply zk3|apply zk4|apply zk5|apply zk6|apply zk7|apply zk8|apply zk9) <;> intro hc)
   |(refine callP0 rfl ?_)
   |(refine callD0 rfl ?_)
   |(refine cP (hDig _) ?_)
   |(refine cD (hDig _) ?_)
   |(refine cF (hDig _) ?_)
   |(refine cO (hDig _) ?_)
   |(refine cP (within_f _ _ _) ?_)
   |(refine cD (within_f _ _ _) ?_)
   |(refine cF (within_f _ _ _) ?_)
   |(refine cO (within_f _ _ _) ?_)
   |(refine cP (isMoment_f _) ?_)
   |(refine cD (isMoment_f _) ?_)
   |(refine cF (isMoment_f _) ?_)
   |(refine cO (isMoment_f _) ?_)
   |(refine cP (checkDigests_f hDig _ _ hxl) ?_)
   |(refine cD (checkDigests_f hDig _ _ hxl) ?_)
   |(refine cF (checkDigests_f hDig _ _ hxl) ?_)
   |(refine cO (checkDigests_f hDig _ _ hxl) ?_)
   | fail)
  all_goals try simp only [decide_eq_true_eq,decide_eq_false_iff_not] at *
  all_goals simp only [*,Int.reduceEq,Int.reduceNe,if_true,if_false,ne_eq,not_true_eq_false,not_false_eq_true,reduceIte,Bool.false_eq_true,Bool.true_and,Bool.and_true,Bool.false_and,Bool.and_false,Bool.not_true,Bool.not_false,Bool.true_or,Bool.or_true,Bool.false_or,Bool.or_false,decide_true,decide_false,reduceCtorEq] at hE
  all_goals first
   | exact ret_ve (by rw [fe_hit hall hlt (by rw [hE];decide),hE])
   | exact ret_ve (by rw [fe_hit hall hlt (by rw [hE];assumption),hE])
   |(refine ⟨s + 1,⟨hlt,fe_step hall hE⟩,by omega,?_⟩;refine wk_i ?_ ?_ <;> simp only [zw,Nat.reduceEqDiff,Nat.reduceBEq,Nat.reduceLT,Nat.reduceLeDiff,reduceIte,reduceCtorEq])
 ·obtain rfl : s = en.length := by omega
  have h0 := fe_none hall
  have h2 := lt_f hge
  rw [h0] at hR
  repeat' (first
   | (simp -implicitDefEqProofs only [*,zr,Nat.reduceAdd,Nat.reduceSub,Nat.reduceMul,Nat.reduceLT,Nat.reduceLeDiff,Nat.reduceEqDiff,Nat.reduceBEq,reduceIte,reduceCtorEq,Int.reduceLE,Int.reduceLT,Int.reduceToNat,Int.reduceEq,Int.reduceNe])
   | ((first|apply zk0|apply zk1|apply zk2|apply zk3|apply zk4|apply zk5|apply zk6|apply zk7|apply zk8|apply zk9) <;> intro hc)
   |(refine callP0 rfl ?_)
   |(refine callD0 rfl ?_)
   | fail)
  exact ret_v
omit hDig in
theorem used_f (c : Cache) (hb : (c.2.2.1.length : Int) ≤ 9223372036854775807) : FRet Tryd.prog 57 [aCache c] [.c (.v (.int .i64 (wsum c.2.2.1)))] := by
 obtain ⟨room,lease,bl,en⟩ := c
 simp only at hb
 refine FCall.of_ax low_cache_used ?_
 dsimp only [l_cache_used,aCache]
 refine srun_sound 300 _ _ _ _ ?_
 repeat' (first
  | (simp -implicitDefEqProofs only [*,frBlobs,zr,Nat.reduceAdd,Nat.reduceSub,Nat.reduceMul,Nat.reduceLT,Nat.reduceLeDiff,Nat.reduceEqDiff,Nat.reduceBEq,reduceIte,reduceCtorEq,Int.reduceLE,Int.reduceLT,Int.reduceToNat,Int.reduceEq,Int.reduceNe])
  | ((first|apply zk0|apply zk1|apply zk2|apply zk3|apply zk4|apply zk5|apply zk6|apply zk7|apply zk8|apply zk9) <;> intro hc)
  |(refine callP0 rfl ?_)
  |(refine callD0 rfl ?_)
  | fail)
 refine ax_loopU (S := Nat) 19 [7,8] [] (fun s => [(9,.f (.int .i64 s)),(3,.f (.int .i64 (wsum (bl.take s))))]) (fun s => []) (fun s => s ≤ bl.length) (fun s => bl.length - s) (0) [] ?_ ?_ fun s hs => ?_
 ·exact Nat.zero_le _
 ·refine wk_i ?_ ?_ <;> simp only [List.take_zero,wsum_nil,zw,Nat.reduceEqDiff,Nat.reduceBEq,Nat.reduceLT,Nat.reduceLeDiff,reduceIte,reduceCtorEq]
 refine srun_sound 300 _ _ _ _ ?_
 rcases Nat.lt_or_ge s bl.length with hlt | hge
 ·obtain ⟨x,hx⟩ := get_some hlt
  have h4 := inc64 hlt hb
  have h2 := lt_t hlt
  have hsum := (wsum_snoc hx).symm
  obtain ⟨xd,xs,xu,xn,xp⟩ := x
  simp only at hsum
  repeat' (first
   | (simp -implicitDefEqProofs only [*,List.getElem?_map,Option.map_some,fBlob,zr,Nat.reduceAdd,Nat.reduceSub,Nat.reduceMul,Nat.reduceLT,Nat.reduceLeDiff,Nat.reduceEqDiff,Nat.reduceBEq,reduceIte,reduceCtorEq,Int.reduceLE,Int.reduceLT,Int.reduceToNat,Int.reduceEq,Int.reduceNe])
   | ((first|apply zk0|apply zk1|apply zk2|apply zk3|apply zk4|apply zk5|apply zk6|apply zk7|apply zk8|apply zk9) <;> intro hc)
   |(refine callP0 rfl ?_)
   |(refine callD0 rfl ?_)
   | fail)
  refine ⟨s + 1,hlt,by omega,?_⟩
  refine wk_i ?_ ?_ <;> simp only [zw,Nat.reduceEqDiff,Nat.reduceBEq,Nat.reduceLT,Nat.reduceLeDiff,reduceIte,reduceCtorEq]
 ·obtain rfl : s = bl.length := by omega
  have h2 := lt_f hge
  have h3 := List.take_length (l := bl)
  repeat' (first
   | (simp -implicitDefEqProofs only [*,zr,Nat.reduceAdd,Nat.reduceSub,Nat.reduceMul,Nat.reduceLT,Nat.reduceLeDiff,Nat.reduceEqDiff,Nat.reduceBEq,reduceIte,reduceCtorEq,Int.reduceLE,Int.reduceLT,Int.reduceToNat,Int.reduceEq,Int.reduceNe])
   | ((first|apply zk0|apply zk1|apply zk2|apply zk3|apply zk4|apply zk5|apply zk6|apply zk7|apply zk8|apply zk9) <;> intro hc)
   |(refine callP0 rfl ?_)
   |(refine callD0 rfl ?_)
   | fail)
  exact ret_v
end
theorem trim_f (s : ByteArray) (hs : s.size ≤ 9223372036854775807) : FRet Tryd.prog 14 [.f (.str s),.f (.str ⟨#[48,49,50,51,52,53,54,55,56,57,97,98,99,100,101,102]⟩)] [.c (.v (.str ⟨(Lib.trimS s.data.toList hexS).toArray⟩))] :=
 fret_calls (by kernel_rfl) fun G Z w vs h1 h2 => by
  obtain ⟨v0,v1,rfl,r0,r1⟩ := args2 h1 h2
  obtain rfl := r0.str_
  obtain rfl := r1.str_
  have hcon := Any.strings_Trim_laid Tryd.lays160 (by kernel_rfl) s ⟨#[48,49,50,51,52,53,54,55,56,57,97,98,99,100,101,102]⟩ w hs (by decide) (ascii_of_all (by decide))
  change Calls Tryd.prog 14 _ _ _ at hcon
  exact hcon.mono fun e w' ⟨he,hb⟩ => ⟨_,he,fun Z' => .str _,hb⟩
theorem compare_f (a b : ByteArray) : FRet Tryd.prog 43 [.f (.str a),.f (.str b)] [.c (.v (.int .i64 (cmpB a b)))] :=
 fret_calls (by kernel_rfl) fun G Z w vs h1 h2 => by
  obtain ⟨v0,v1,rfl,r0,r1⟩ := args2 h1 h2
  obtain rfl := r0.str_
  obtain rfl := r1.str_
  have hcon := Any.strings_Compare Tryd.lays106 a b w
  change Calls Tryd.prog 43 _ _ _ at hcon
  exact hcon.mono fun e w' ⟨he,hb⟩ => ⟨_,he,fun Z' => .int _ _,by rw [hb];exact Below.refl _ _⟩
theorem isDigest_f (s : ByteArray) : FRet Tryd.prog 8 [.f (.str s)] [.c (.v (.bool (isDig s)))] := by
 refine FCall.of_ax low_blob_IsDigest ?_
 dsimp only [l_blob_IsDigest]
 refine srun_sound 300 _ _ _ _ ?_
 by_cases h16 : s.size = 16
 ·have h1 : decide ((s.size : Int) = 16) = true := by simp;omega
  have h2 : isDig s = decide ((⟨(Lib.trimS s.data.toList hexS).toArray⟩ : ByteArray) = ⟨#[]⟩) := by
   unfold isDig
   rw [show (s.size == 16) = true by simpa using h16,Bool.true_and]
   cases h : Lib.trimS s.data.toList hexS <;> simp
  rw [h2]
  clear h16 h2
  repeat' (first
   | (simp -implicitDefEqProofs only [*,zr,Nat.reduceAdd,Nat.reduceSub,Nat.reduceMul,Nat.reduceLT,Nat.reduceLeDiff,Nat.reduceEqDiff,Nat.reduceBEq,reduceIte,reduceCtorEq,Int.reduceLE,Int.reduceLT,Int.reduceToNat,Int.reduceEq,Int.reduceNe])
   | ((first|apply zk0|apply zk1|apply zk2|apply zk3|apply zk4|apply zk5|apply zk6|apply zk7|apply zk8|apply zk9) <;> intro hc)
   |(refine callP0 rfl ?_)
   |(refine callD0 rfl ?_)
   |(refine cP (trim_f s (by simp at h1;omega)) ?_)
   |(refine cD (trim_f s (by simp at h1;omega)) ?_)
   |(refine cF (trim_f s (by simp at h1;omega)) ?_)
   |(refine cO (trim_f s (by simp at h1;omega)) ?_)
   | fail)
  exact ret_v
 ·have h1 : decide ((s.size : Int) = 16) = false := by simp;omega
  have h2 : isDig s = false := by unfold isDig;rw [show (s.size == 16) = false by simpa using h16];rfl
  rw [h2]
  clear h16 h2
  repeat' (first
   | (simp -implicitDefEqProofs only [*,zr,Nat.reduceAdd,Nat.reduceSub,Nat.reduceMul,Nat.reduceLT,Nat.reduceLeDiff,Nat.reduceEqDiff,Nat.reduceBEq,reduceIte,reduceCtorEq,Int.reduceLE,Int.reduceLT,Int.reduceToNat,Int.reduceEq,Int.reduceNe])
   | ((first|apply zk0|apply zk1|apply zk2|apply zk3|apply zk4|apply zk5|apply zk6|apply zk7|apply zk8|apply zk9) <;> intro hc)
   |(refine callP0 rfl ?_)
   |(refine callD0 rfl ?_)
   | fail)
  exact ret_v
theorem findC_f (b : Blob) (s : ByteArray) : FRet Tryd.prog 42 [.agg ((fBlob b).map .f),.f (.str s)] [.c (.v (.int .i64 (cmpB b.1 s)))] := by
 refine FCall.of_ax low_cache_find_c1 ?_
 dsimp only [l_cache_find_c1,fBlob]
 refine srun_sound 300 _ _ _ _ ?_
 repeat' (first
  | (simp -implicitDefEqProofs only [*,zr,Nat.reduceAdd,Nat.reduceSub,Nat.reduceMul,Nat.reduceLT,Nat.reduceLeDiff,Nat.reduceEqDiff,Nat.reduceBEq,reduceIte,reduceCtorEq,Int.reduceLE,Int.reduceLT,Int.reduceToNat,Int.reduceEq,Int.reduceNe])
  | ((first|apply zk0|apply zk1|apply zk2|apply zk3|apply zk4|apply zk5|apply zk6|apply zk7|apply zk8|apply zk9) <;> intro hc)
  |(refine callP0 rfl ?_)
  |(refine callD0 rfl ?_)
  |(refine cP (compare_f _ _) ?_)
  |(refine cD (compare_f _ _) ?_)
  |(refine cF (compare_f _ _) ?_)
  |(refine cO (compare_f _ _) ?_)
  | fail)
 exact ret_v
theorem entryAtC_f (b : Entry) (s : ByteArray) : FRet Tryd.prog 62 [.agg ((fEntry b).map .f),.f (.str s)] [.c (.v (.int .i64 (cmpB b.1 s)))] := by
 refine FCall.of_ax low_cache_entryAt_c1 ?_
 dsimp only [l_cache_entryAt_c1,fEntry]
 refine srun_sound 300 _ _ _ _ ?_
 repeat' (first
  | (simp -implicitDefEqProofs only [*,zr,Nat.reduceAdd,Nat.reduceSub,Nat.reduceMul,Nat.reduceLT,Nat.reduceLeDiff,Nat.reduceEqDiff,Nat.reduceBEq,reduceIte,reduceCtorEq,Int.reduceLE,Int.reduceLT,Int.reduceToNat,Int.reduceEq,Int.reduceNe])
  | ((first|apply zk0|apply zk1|apply zk2|apply zk3|apply zk4|apply zk5|apply zk6|apply zk7|apply zk8|apply zk9) <;> intro hc)
  |(refine callP0 rfl ?_)
  |(refine callD0 rfl ?_)
  |(refine cP (compare_f _ _) ?_)
  |(refine cD (compare_f _ _) ?_)
  |(refine cF (compare_f _ _) ?_)
  |(refine cO (compare_f _ _) ?_)
  | fail)
 exact ret_v
theorem wrapu64 {n : Int} (h1 : 0 ≤ n) (h2 : n ≤ 18446744073709551615) : IntKind.u64.wrap n = n := by
 rw [IntKind.wrap_u64];omega
theorem bs_blob (l : List Blob) (tgt : ByteArray) (fn : FuncId) (cf : Blob → Int) (hl : l.length ≤ 1000000) (hcmp : ∀ x ∈ l,FRet Tryd.prog fn [.agg ((fBlob x).map .f),.f (.str tgt)] [.c (.v (.int .i64 (cf x)))]) (hmono : ∀ (i j : Nat) x y,i ≤ j → l[i]? = some x → l[j]? = some y → cf y < 0 → cf x < 0) :
  FRet Tryd.prog 41 [.f (.fr 5 (l.map fBlob)),.f (.str tgt),.f (.fn (.func fn))] [.c (.v (.int .i64 (bsIdx cf l))),.c (.v (.bool (bsHit cf l)))] := by
 refine FCall.of_ax low_slices_BinarySearchFunc_api_Blob_api_Blob_string ?_
 dsimp only [l_slices_BinarySearchFunc_api_Blob_api_Blob_string]
 refine srun_sound 300 _ _ _ _ ?_
 repeat' (first
  | (simp -implicitDefEqProofs only [*,zr,Nat.reduceAdd,Nat.reduceSub,Nat.reduceMul,Nat.reduceLT,Nat.reduceLeDiff,Nat.reduceEqDiff,Nat.reduceBEq,reduceIte,reduceCtorEq,Int.reduceLE,Int.reduceLT,Int.reduceToNat,Int.reduceEq,Int.reduceNe])
  | ((first|apply zk0|apply zk1|apply zk2|apply zk3|apply zk4|apply zk5|apply zk6|apply zk7|apply zk8|apply zk9) <;> intro hc)
  |(refine callP0 rfl ?_)
  |(refine callD0 rfl ?_)
  | fail)
 refine ax_loopU (S := Nat × Nat) 49 [0,1,2,8] [] (fun s => [(9,.f (.int .i64 s.1)),(10,.f (.int .i64 s.2))]) (fun s => []) (fun s => s.1 ≤ s.2 ∧ s.2 ≤ l.length ∧ (∀ (m : Nat) x,m < s.1 → l[m]? = some x → cf x < 0) ∧ (∀ (m : Nat) x,s.2 ≤ m → l[m]? = some x → ¬ cf x < 0)) (fun s => s.2 - s.1) (0,l.length) [] ?_ ?_ fun s hs => ?_
 ·exact ⟨Nat.zero_le _,Nat.le_refl _,fun m x h => absurd h (by omega),fun m x h hx => by have := (List.getElem?_eq_some_iff.1 hx).1;omega⟩
 ·refine wk_i ?_ ?_ <;> simp only [zw,Nat.reduceEqDiff,Nat.reduceBEq,Nat.reduceLT,Nat.reduceLeDiff,reduceIte,reduceCtorEq]
 obtain ⟨i,j⟩ := s
 obtain ⟨hij,hj,hlo,hhi⟩ := hs
 dsimp only at hij hj hlo hhi ⊢
 refine srun_sound 300 _ _ _ _ ?_
 rcases Nat.lt_or_ge i j with hlt | hge
 ·have h2 := lt_t hlt
  have hw1 : IntKind.i64.wrap ((i : Int) + j) = ((i + j : Nat) : Int) := by rw [wrap64] <;> omega
  have hw2 : IntKind.u64.wrap ((i + j : Nat) : Int) = ((i + j : Nat) : Int) := wrapu64 (by omega) (by omega)
  have hw3 : Int.fdiv ((i + j : Nat) : Int) (2 ^ min 1 IntKind.u64.bits) = (((i + j) / 2 : Nat) : Int) := by
   rw [show min 1 IntKind.u64.bits = 1 from rfl,Int.fdiv_eq_ediv_of_nonneg _ (by decide)];omega
  have hw4 : IntKind.i64.wrap (((i + j) / 2 : Nat) : Int) = (((i + j) / 2 : Nat) : Int) := by rw [wrap64] <;> omega
  have hw5 : IntKind.i64.wrap ((((i + j) / 2 : Nat) : Int) + 1) = (((i + j) / 2 + 1 : Nat) : Int) := by rw [wrap64] <;> omega
  obtain ⟨x,hx⟩ := get_some (l := l) (i := (i + j) / 2) (by omega)
  have hm := List.mem_of_getElem? hx
  generalize hmid : (i + j) / 2 = mid at hw3 hw4 hw5 hx
  have hi1 : i ≤ mid := by omega
  have hi2 : mid < j := by omega
  clear hmid
  repeat' (first
   | (simp -implicitDefEqProofs only [*,List.getElem?_map,Option.map_some,fBlob,zr,Nat.reduceAdd,Nat.reduceSub,Nat.reduceMul,Nat.reduceLT,Nat.reduceLeDiff,Nat.reduceEqDiff,Nat.reduceBEq,reduceIte,reduceCtorEq,Int.reduceLE,Int.reduceLT,Int.reduceToNat,Int.reduceEq,Int.reduceNe])
   | ((first|apply zk0|apply zk1|apply zk2|apply zk3|apply zk4|apply zk5|apply zk6|apply zk7|apply zk8|apply zk9) <;> intro hc)
   |(refine callP0 rfl ?_)
   |(refine callD0 rfl ?_)
   |(refine cP (hcmp x hm) ?_)
   |(refine cD (hcmp x hm) ?_)
   |(refine cF (hcmp x hm) ?_)
   |(refine cO (hcmp x hm) ?_)
   | fail)
  ·refine ⟨(mid + 1,j),⟨hi2,hj,fun m y h1 h3 => hmono m mid y x (by omega) h3 hx (of_decide_eq_true hc),hhi⟩,by simp only;omega,?_⟩
   refine wk_i ?_ ?_ <;> simp only [zw,Nat.reduceEqDiff,Nat.reduceBEq,Nat.reduceLT,Nat.reduceLeDiff,reduceIte,reduceCtorEq]
  ·refine ⟨(i,mid),⟨hi1,by omega,hlo,fun m y h1 h3 h4 => of_decide_eq_false hc (hmono mid m x y h1 hx h3 h4)⟩,by simp only;omega,?_⟩
   refine wk_i ?_ ?_ <;> simp only [zw,Nat.reduceEqDiff,Nat.reduceBEq,Nat.reduceLT,Nat.reduceLeDiff,reduceIte,reduceCtorEq]
 ·obtain rfl : i = j := by omega
  have hidx : bsIdx cf l = i := bsIdx_eq hj hlo hhi
  have h2 := lt_f hge
  rcases Nat.lt_or_ge i l.length with h3 | h3
  ·obtain ⟨x,hx⟩ := get_some h3
   have hhit : bsHit cf l = decide (cf x = 0) := by rw [bsHit,hidx,hx]
   rw [hidx,hhit]
   have h4 := lt_t h3
   repeat' (first
    | (simp -implicitDefEqProofs only [*,List.getElem?_map,Option.map_some,fBlob,zr,Nat.reduceAdd,Nat.reduceSub,Nat.reduceMul,Nat.reduceLT,Nat.reduceLeDiff,Nat.reduceEqDiff,Nat.reduceBEq,reduceIte,reduceCtorEq,Int.reduceLE,Int.reduceLT,Int.reduceToNat,Int.reduceEq,Int.reduceNe])
    | ((first|apply zk0|apply zk1|apply zk2|apply zk3|apply zk4|apply zk5|apply zk6|apply zk7|apply zk8|apply zk9) <;> intro hc)
    |(refine callP0 rfl ?_)
    |(refine callD0 rfl ?_)
    |(refine cP (hcmp x (List.mem_of_getElem? hx)) ?_)
    |(refine cD (hcmp x (List.mem_of_getElem? hx)) ?_)
    |(refine cF (hcmp x (List.mem_of_getElem? hx)) ?_)
    |(refine cO (hcmp x (List.mem_of_getElem? hx)) ?_)
    | fail)
   exact ret_vv
  ·have hhit : bsHit cf l = false := by rw [bsHit,hidx,List.getElem?_eq_none h3]
   rw [hidx,hhit]
   have h4 := lt_f h3
   repeat' (first
    | (simp -implicitDefEqProofs only [*,zr,Nat.reduceAdd,Nat.reduceSub,Nat.reduceMul,Nat.reduceLT,Nat.reduceLeDiff,Nat.reduceEqDiff,Nat.reduceBEq,reduceIte,reduceCtorEq,Int.reduceLE,Int.reduceLT,Int.reduceToNat,Int.reduceEq,Int.reduceNe])
    | ((first|apply zk0|apply zk1|apply zk2|apply zk3|apply zk4|apply zk5|apply zk6|apply zk7|apply zk8|apply zk9) <;> intro hc)
    |(refine callP0 rfl ?_)
    |(refine callD0 rfl ?_)
    | fail)
   exact ret_vv

theorem bs_entry (l : List Entry) (tgt : ByteArray) (fn : FuncId) (cf : Entry → Int) (hl : l.length ≤ 1000000) (hcmp : ∀ x ∈ l,FRet Tryd.prog fn [.agg ((fEntry x).map .f),.f (.str tgt)] [.c (.v (.int .i64 (cf x)))]) (hmono : ∀ (i j : Nat) x y,i ≤ j → l[i]? = some x → l[j]? = some y → cf y < 0 → cf x < 0) :
  FRet Tryd.prog 61 [.f (.fr 3 (l.map fEntry)),.f (.str tgt),.f (.fn (.func fn))] [.c (.v (.int .i64 (bsIdx cf l))),.c (.v (.bool (bsHit cf l)))] := by
 refine FCall.of_ax low_slices_BinarySearchFunc_api_Entry_api_Entry_string ?_
 dsimp only [l_slices_BinarySearchFunc_api_Entry_api_Entry_string]
 refine srun_sound 300 _ _ _ _ ?_
 repeat' (first
  | (simp -implicitDefEqProofs only [*,zr,Nat.reduceAdd,Nat.reduceSub,Nat.reduceMul,Nat.reduceLT,Nat.reduceLeDiff,Nat.reduceEqDiff,Nat.reduceBEq,reduceIte,reduceCtorEq,Int.reduceLE,Int.reduceLT,Int.reduceToNat,Int.reduceEq,Int.reduceNe])
  | ((first|apply zk0|apply zk1|apply zk2|apply zk3|apply zk4|apply zk5|apply zk6|apply zk7|apply zk8|apply zk9) <;> intro hc)
  |(refine callP0 rfl ?_)
  |(refine callD0 rfl ?_)
  | fail)
 refine ax_loopU (S := Nat × Nat) 49 [0,1,2,8] [] (fun s => [(9,.f (.int .i64 s.1)),(10,.f (.int .i64 s.2))]) (fun s => []) (fun s => s.1 ≤ s.2 ∧ s.2 ≤ l.length ∧ (∀ (m : Nat) x,m < s.1 → l[m]? = some x → cf x < 0) ∧ (∀ (m : Nat) x,s.2 ≤ m → l[m]? = some x → ¬ cf x < 0)) (fun s => s.2 - s.1) (0,l.length) [] ?_ ?_ fun s hs => ?_
 ·exact ⟨Nat.zero_le _,Nat.le_refl _,fun m x h => absurd h (by omega),fun m x h hx => by have := (List.getElem?_eq_some_iff.1 hx).1;omega⟩
 ·refine wk_i ?_ ?_ <;> simp only [zw,Nat.reduceEqDiff,Nat.reduceBEq,Nat.reduceLT,Nat.reduceLeDiff,reduceIte,reduceCtorEq]
 obtain ⟨i,j⟩ := s
 obtain ⟨hij,hj,hlo,hhi⟩ := hs
 dsimp only at hij hj hlo hhi ⊢
 refine srun_sound 300 _ _ _ _ ?_
 rcases Nat.lt_or_ge i j with hlt | hge
 ·have h2 := lt_t hlt
  have hw1 : IntKind.i64.wrap ((i : Int) + j) = ((i + j : Nat) : Int) := by rw [wrap64] <;> omega
  have hw2 : IntKind.u64.wrap ((i + j : Nat) : Int) = ((i + j : Nat) : Int) := wrapu64 (by omega) (by omega)
  have hw3 : Int.fdiv ((i + j : Nat) : Int) (2 ^ min 1 IntKind.u64.bits) = (((i + j) / 2 : Nat) : Int) := by
   rw [show min 1 IntKind.u64.bits = 1 from rfl,Int.fdiv_eq_ediv_of_nonneg _ (by decide)];omega
  have hw4 : IntKind.i64.wrap (((i + j) / 2 : Nat) : Int) = (((i + j) / 2 : Nat) : Int) := by rw [wrap64] <;> omega
  have hw5 : IntKind.i64.wrap ((((i + j) / 2 : Nat) : Int) + 1) = (((i + j) / 2 + 1 : Nat) : Int) := by rw [wrap64] <;> omega
  obtain ⟨x,hx⟩ := get_some (l := l) (i := (i + j) / 2) (by omega)
  have hm := List.mem_of_getElem? hx
  generalize hmid : (i + j) / 2 = mid at hw3 hw4 hw5 hx
  have hi1 : i ≤ mid := by omega
  have hi2 : mid < j := by omega
  clear hmid
  repeat' (first
   | (simp -implicitDefEqProofs only [*,List.getElem?_map,Option.map_some,fEntry,zr,Nat.reduceAdd,Nat.reduceSub,Nat.reduceMul,Nat.reduceLT,Nat.reduceLeDiff,Nat.reduceEqDiff,Nat.reduceBEq,reduceIte,reduceCtorEq,Int.reduceLE,Int.reduceLT,Int.reduceToNat,Int.reduceEq,Int.reduceNe])
   | ((first|apply zk0|apply zk1|apply zk2|apply zk3|apply zk4|apply zk5|apply zk6|apply zk7|apply zk8|apply zk9) <;> intro hc)
   |(refine callP0 rfl ?_)
   |(refine callD0 rfl ?_)
   |(refine cP (hcmp x hm) ?_)
   |(refine cD (hcmp x hm) ?_)
   |(refine cF (hcmp x hm) ?_)
   |(refine cO (hcmp x hm) ?_)
   | fail)
  ·refine ⟨(mid + 1,j),⟨hi2,hj,fun m y h1 h3 => hmono m mid y x (by omega) h3 hx (of_decide_eq_true hc),hhi⟩,by simp only;omega,?_⟩
   refine wk_i ?_ ?_ <;> simp only [zw,Nat.reduceEqDiff,Nat.reduceBEq,Nat.reduceLT,Nat.reduceLeDiff,reduceIte,reduceCtorEq]
  ·refine ⟨(i,mid),⟨hi1,by omega,hlo,fun m y h1 h3 h4 => of_decide_eq_false hc (hmono mid m x y h1 hx h3 h4)⟩,by simp only;omega,?_⟩
   refine wk_i ?_ ?_ <;> simp only [zw,Nat.reduceEqDiff,Nat.reduceBEq,Nat.reduceLT,Nat.reduceLeDiff,reduceIte,reduceCtorEq]
 ·obtain rfl : i = j := by omega
  have hidx : bsIdx cf l = i := bsIdx_eq hj hlo hhi
  have h2 := lt_f hge
  rcases Nat.lt_or_ge i l.length with h3 | h3
  ·obtain ⟨x,hx⟩ := get_some h3
   have hhit : bsHit cf l = decide (cf x = 0) := by rw [bsHit,hidx,hx]
   rw [hidx,hhit]
   have h4 := lt_t h3
   repeat' (first
    | (simp -implicitDefEqProofs only [*,List.getElem?_map,Option.map_some,fEntry,zr,Nat.reduceAdd,Nat.reduceSub,Nat.reduceMul,Nat.reduceLT,Nat.reduceLeDiff,Nat.reduceEqDiff,Nat.reduceBEq,reduceIte,reduceCtorEq,Int.reduceLE,Int.reduceLT,Int.reduceToNat,Int.reduceEq,Int.reduceNe])
    | ((first|apply zk0|apply zk1|apply zk2|apply zk3|apply zk4|apply zk5|apply zk6|apply zk7|apply zk8|apply zk9) <;> intro hc)
    |(refine callP0 rfl ?_)
    |(refine callD0 rfl ?_)
    |(refine cP (hcmp x (List.mem_of_getElem? hx)) ?_)
    |(refine cD (hcmp x (List.mem_of_getElem? hx)) ?_)
    |(refine cF (hcmp x (List.mem_of_getElem? hx)) ?_)
    |(refine cO (hcmp x (List.mem_of_getElem? hx)) ?_)
    | fail)
   exact ret_vv
  ·have hhit : bsHit cf l = false := by rw [bsHit,hidx,List.getElem?_eq_none h3]
   rw [hidx,hhit]
   have h4 := lt_f h3
   repeat' (first
    | (simp -implicitDefEqProofs only [*,zr,Nat.reduceAdd,Nat.reduceSub,Nat.reduceMul,Nat.reduceLT,Nat.reduceLeDiff,Nat.reduceEqDiff,Nat.reduceBEq,reduceIte,reduceCtorEq,Int.reduceLE,Int.reduceLT,Int.reduceToNat,Int.reduceEq,Int.reduceNe])
    | ((first|apply zk0|apply zk1|apply zk2|apply zk3|apply zk4|apply zk5|apply zk6|apply zk7|apply zk8|apply zk9) <;> intro hc)
    |(refine callP0 rfl ?_)
    |(refine callD0 rfl ?_)
    | fail)
   exact ret_vv

structure COk (c : Cache) : Prop where
 room : 0 ≤ c.1 ∧ c.1 ≤ 1000000000
 lease : 0 ≤ c.2.1 ∧ c.2.1 ≤ 1000000
 blen : c.2.2.1.length ≤ 3000
 berr : ∀ m,m < c.2.2.1.length → blobErr c.2.2.1 m = 0
 bsum : sumSz c.2.2.1 ≤ c.1
 elen : c.2.2.2.length ≤ 1000
 eerr : ∀ m,m < c.2.2.2.length → entErr c.2.2.2 m = 0
theorem cok_of {c : Cache} (h : ckCache c = 0) : COk c := by
 unfold ckCache at h
 by_cases h1 : (inRg c.1 0 1000000000 && inRg c.2.1 0 1000000) = true
 ·rw [if_pos h1] at h
  by_cases h2 : ckBlobs c.2.2.1 c.1 = 0
  ·rw [if_neg (by simpa using h2)] at h
   by_cases h3 : (1000 : Int) < c.2.2.2.length
   ·rw [if_pos h3] at h;cases h
   ·rw [if_neg h3] at h
    unfold ckBlobs at h2
    by_cases h4 : (3000 : Int) < c.2.2.1.length
    ·rw [if_pos h4] at h2;cases h2
    ·rw [if_neg h4] at h2
     by_cases h5 : firstErr (blobErr c.2.2.1) 0 c.2.2.1.length = 0
     ·rw [if_neg (by simpa using h5)] at h2
      by_cases h6 : c.1 < sumSz c.2.2.1
      ·rw [if_pos h6] at h2;cases h2
      ·simp [inRg] at h1
       exact ⟨by omega,by omega,by omega,fe_zero h5,by omega,by omega,fe_zero h⟩
     ·rw [if_pos h5] at h2;exact absurd h2 h5
  ·rw [if_pos h2] at h;exact absurd h h2
 ·rw [if_neg h1] at h;cases h
theorem COk.range {c : Cache} (h : COk c) : ∀ b ∈ c.2.2.1,0 ≤ b.2.1 ∧ b.2.1 ≤ 100000000 := by
 have := take_range (Nat.le_refl _) h.berr
 rwa [List.take_length] at this
theorem COk.wsum {c : Cache} (h : COk c) : wsum c.2.2.1 = sumSz c.2.2.1 := wsum_eq (by have := h.blen;omega) h.range
theorem entErr_zero {l : List Entry} {i : Nat} {e : Entry} (he : l[i]? = some e) (h : entErr l i = 0) : isDig e.1 = true ∧ e.2.1.length ≤ 200 ∧ ckDigs e.2.1 = 0 ∧ prevV l i (fun d => if leS e.1 d.1 = true then 8 else 0) = 0 ∧ 0 ≤ e.2.2 ∧ e.2.2 ≤ 1000000000 := by
 rw [entErr_of he] at h
 by_cases h1 : isDig e.1 = true
 ·rw [if_pos h1] at h
  by_cases h2 : ckDigsM e.2.1 200 = 0
  ·rw [if_neg (by simpa using h2)] at h
   by_cases h3 : inRg e.2.2 0 1000000000 = true
   ·rw [if_pos h3] at h
    unfold ckDigsM at h2
    by_cases h4 : (200 : Int) < e.2.1.length
    ·rw [if_pos h4] at h2;cases h2
    ·rw [if_neg h4] at h2
     simp [inRg] at h3
     exact ⟨h1,by omega,h2,h,h3⟩
   ·rw [if_neg h3] at h;cases h
  ·rw [if_pos h2] at h;exact absurd h h2
 ·rw [if_neg h1] at h;cases h
theorem COk.refs {c : Cache} (h : COk c) : ∀ e ∈ c.2.2.2,e.2.1.length ≤ 200 := fun e he => by
 obtain ⟨m,hm⟩ := List.mem_iff_getElem?.1 he
 exact (entErr_zero hm (h.eerr m (List.getElem?_eq_some_iff.1 hm).1)).2.1
def bIdx (l : List Blob) (t : ByteArray) : Nat := bsIdx (fun b => cmpB b.1 t) l
def eIdx (l : List Entry) (t : ByteArray) : Nat := bsIdx (fun b => cmpB b.1 t) l
def hasB (l : List Blob) (t : ByteArray) : Bool := hasK (fun b : Blob => b.1) l t
def hasE (l : List Entry) (t : ByteArray) : Bool := hasK (fun b : Entry => b.1) l t
theorem find_f (c : Cache) (t : ByteArray) (hl : c.2.2.1.length ≤ 1000000) (hr : Rising (fun b : Blob => b.1) c.2.2.1) : FRet Tryd.prog 24 [aCache c,.f (.str t)] [.c (.v (.int .i64 (bIdx c.2.2.1 t))),.c (.v (.bool (hasB c.2.2.1 t)))] := by
 rw [bIdx,hasB,← bsHit_eq hr]
 refine FCall.of_ax low_cache_find ?_
 dsimp only [l_cache_find,aCache,frBlobs]
 refine srun_sound 300 _ _ _ _ ?_
 repeat' (first
  | (simp -implicitDefEqProofs only [*,zr,Nat.reduceAdd,Nat.reduceSub,Nat.reduceMul,Nat.reduceLT,Nat.reduceLeDiff,Nat.reduceEqDiff,Nat.reduceBEq,reduceIte,reduceCtorEq,Int.reduceLE,Int.reduceLT,Int.reduceToNat,Int.reduceEq,Int.reduceNe])
  | ((first|apply zk0|apply zk1|apply zk2|apply zk3|apply zk4|apply zk5|apply zk6|apply zk7|apply zk8|apply zk9) <;> intro hc)
  |(refine callP0 rfl ?_)
  |(refine callD0 rfl ?_)
  |(refine cP (bs_blob c.2.2.1 t _ (fun b => cmpB b.1 t) hl (fun x _ => findC_f x t) (mono_of hr t)) ?_)
  |(refine cD (bs_blob c.2.2.1 t _ (fun b => cmpB b.1 t) hl (fun x _ => findC_f x t) (mono_of hr t)) ?_)
  |(refine cF (bs_blob c.2.2.1 t _ (fun b => cmpB b.1 t) hl (fun x _ => findC_f x t) (mono_of hr t)) ?_)
  |(refine cO (bs_blob c.2.2.1 t _ (fun b => cmpB b.1 t) hl (fun x _ => findC_f x t) (mono_of hr t)) ?_)
  | fail)
 exact ret_vv
theorem entryAt_f (c : Cache) (t : ByteArray) (hl : c.2.2.2.length ≤ 1000000) (hr : Rising (fun b : Entry => b.1) c.2.2.2) : FRet Tryd.prog 46 [aCache c,.f (.str t)] [.c (.v (.int .i64 (eIdx c.2.2.2 t))),.c (.v (.bool (hasE c.2.2.2 t)))] := by
 rw [eIdx,hasE,← bsHit_eq hr]
 refine FCall.of_ax low_cache_entryAt ?_
 dsimp only [l_cache_entryAt,aCache,frEntries]
 refine srun_sound 300 _ _ _ _ ?_
 repeat' (first
  | (simp -implicitDefEqProofs only [*,zr,Nat.reduceAdd,Nat.reduceSub,Nat.reduceMul,Nat.reduceLT,Nat.reduceLeDiff,Nat.reduceEqDiff,Nat.reduceBEq,reduceIte,reduceCtorEq,Int.reduceLE,Int.reduceLT,Int.reduceToNat,Int.reduceEq,Int.reduceNe])
  | ((first|apply zk0|apply zk1|apply zk2|apply zk3|apply zk4|apply zk5|apply zk6|apply zk7|apply zk8|apply zk9) <;> intro hc)
  |(refine callP0 rfl ?_)
  |(refine callD0 rfl ?_)
  |(refine cP (bs_entry c.2.2.2 t _ (fun b => cmpB b.1 t) hl (fun x _ => entryAtC_f x t) (mono_of hr t)) ?_)
  |(refine cD (bs_entry c.2.2.2 t _ (fun b => cmpB b.1 t) hl (fun x _ => entryAtC_f x t) (mono_of hr t)) ?_)
  |(refine cF (bs_entry c.2.2.2 t _ (fun b => cmpB b.1 t) hl (fun x _ => entryAtC_f x t) (mono_of hr t)) ?_)
  |(refine cO (bs_entry c.2.2.2 t _ (fun b => cmpB b.1 t) hl (fun x _ => entryAtC_f x t) (mono_of hr t)) ?_)
  | fail)
 exact ret_vv
def missingOf (bl : List Blob) (l : List ByteArray) : List ByteArray := l.filter fun d => !hasB bl d
theorem missing_snoc {bl : List Blob} {l : List ByteArray} {i : Nat} {d : ByteArray} (h : l[i]? = some d) : missingOf bl (l.take (i + 1)) = missingOf bl (l.take i) ++ if hasB bl d = true then [] else [d] := by
 rw [List.take_add_one,h,missingOf,List.filter_append,← missingOf]
 cases hd : hasB bl d <;> simp [hd]
theorem missing_len (bl : List Blob) (l : List ByteArray) : (missingOf bl l).length ≤ l.length := List.length_filter_le _ _
theorem missing_f (c : Cache) (l : List ByteArray) (hl : c.2.2.1.length ≤ 1000000) (hr : Rising (fun b : Blob => b.1) c.2.2.1) (hn : l.length ≤ 1000000) : FRet Tryd.prog 27 [aCache c,.f (frStrs l)] [.c (.own 1 (missingOf c.2.2.1 l).length ((missingOf c.2.2.1 l).map .str))] := by
 obtain ⟨room,lease,bl,en⟩ := c
 simp only at hl hr ⊢
 refine FCall.of_ax low_cache_missing ?_
 dsimp only [l_cache_missing,aCache,frStrs]
 refine srun_sound 300 _ _ _ _ ?_
 repeat' (first
  | (simp -implicitDefEqProofs only [*,frBlobs,frEntries,zr,Nat.reduceAdd,Nat.reduceSub,Nat.reduceMul,Nat.reduceLT,Nat.reduceLeDiff,Nat.reduceEqDiff,Nat.reduceBEq,reduceIte,reduceCtorEq,Int.reduceLE,Int.reduceLT,Int.reduceToNat,Int.reduceEq,Int.reduceNe])
  | ((first|apply zk0|apply zk1|apply zk2|apply zk3|apply zk4|apply zk5|apply zk6|apply zk7|apply zk8|apply zk9) <;> intro hc)
  |(refine callP0 rfl ?_)
  |(refine callD0 rfl ?_)
  | fail)
 refine ax_loopU (S := Nat) 30 [2,10,11] [2] (fun s => [(12,.f (.int .i64 s)),(5,.sl 27 1 1 0 (missingOf bl (l.take s)).length)]) (fun s => [(27,1,((missingOf bl (l.take s)).map FV.str).map AV.f)]) (fun s => s ≤ l.length) (fun s => l.length - s) (0) [27] ?_ ?_ fun s hs => ?_
 ·exact Nat.zero_le _
 ·refine wk_i ?_ ?_ <;> simp only [List.take_zero,show missingOf bl [] = [] from rfl,zw,Nat.reduceEqDiff,Nat.reduceBEq,Nat.reduceLT,Nat.reduceLeDiff,reduceIte,reduceCtorEq]
 refine srun_sound 300 _ _ _ _ ?_
 rcases Nat.lt_or_ge s l.length with hlt | hge
 ·obtain ⟨x,hx⟩ := get_some hlt
  have h4 := inc64 hlt (by omega)
  have h2 := lt_t hlt
  have hs := missing_snoc (bl := bl) hx
  have hlen := missing_len bl (l.take s)
  rw [List.length_take] at hlen
  have h8 : (((missingOf bl (l.take s)).length + 1) * 16 ≤ 140737488355328) = True := by rw [eq_iff_iff,iff_true];omega
  generalize hm : missingOf bl (l.take s) = m at hs h8 ⊢
  repeat' (first
   | (simp -implicitDefEqProofs only [*,List.getElem?_map,Option.map_some,zr,Nat.reduceAdd,Nat.reduceSub,Nat.reduceMul,Nat.reduceLT,Nat.reduceLeDiff,Nat.reduceEqDiff,Nat.reduceBEq,reduceIte,reduceCtorEq,Int.reduceLE,Int.reduceLT,Int.reduceToNat,Int.reduceEq,Int.reduceNe])
   | ((first|apply zk0|apply zk1|apply zk2|apply zk3|apply zk4|apply zk5|apply zk6|apply zk7|apply zk8|apply zk9) <;> intro hc)
   |(refine callP0 rfl ?_)
   |(refine callD0 rfl ?_)
   |(refine cP (find_f (room,lease,bl,en) x hl hr) ?_)
   |(refine cD (find_f (room,lease,bl,en) x hl hr) ?_)
   |(refine cF (find_f (room,lease,bl,en) x hl hr) ?_)
   |(refine cO (find_f (room,lease,bl,en) x hl hr) ?_)
   | fail)
  all_goals (simp only [hc,if_true,if_false,Bool.false_eq_true,List.append_nil] at hs;refine ⟨s + 1,hlt,by omega,?_⟩;rw [hs];refine wk_i ?_ ?_ <;> simp only [List.length_append,zw,Nat.reduceEqDiff,Nat.reduceBEq,Nat.reduceLT,Nat.reduceLeDiff,reduceIte,reduceCtorEq])
  exact SlotsOk.of_eq (by simp)
 ·obtain rfl : s = l.length := by omega
  have h2 := lt_f hge
  have h3 := List.take_length (l := l)
  repeat' (first
   | (simp -implicitDefEqProofs only [*,zr,Nat.reduceAdd,Nat.reduceSub,Nat.reduceMul,Nat.reduceLT,Nat.reduceLeDiff,Nat.reduceEqDiff,Nat.reduceBEq,reduceIte,reduceCtorEq,Int.reduceLE,Int.reduceLT,Int.reduceToNat,Int.reduceEq,Int.reduceNe])
   | ((first|apply zk0|apply zk1|apply zk2|apply zk3|apply zk4|apply zk5|apply zk6|apply zk7|apply zk8|apply zk9) <;> intro hc)
   |(refine callP0 rfl ?_)
   |(refine callD0 rfl ?_)
   | fail)
  exact ret_o (by simp [cellsOf,mkH,lookH]) (by simp)
end Go.Proofs.YtanhelgblnmdcaaDoor
