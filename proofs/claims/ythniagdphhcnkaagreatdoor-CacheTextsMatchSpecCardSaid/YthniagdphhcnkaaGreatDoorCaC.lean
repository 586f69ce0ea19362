/-
  The cache's find, entryAt, missing, Used, Broken on the machine. No statement of the seat is proved here; no conditions.
-/
import Derived.Test.YthniagdphhcnkaaGreatDoorLowA
import Derived.Test.YthniagdphhcnkaaGreatDoorCaT
import Derived.Test.YthniagdphhcnkaaGreatDoorEngS
import Derived.Test.YthniagdphhcnkaaGreatDoorLay
namespace Go.Proofs.YthniagdphhcnkaaGreatDoor
open Go.RowKit
open Go.RowKit Go.Shelf
set_option linter.unusedVariables false
set_option linter.unusedSimpArgs false
set_option maxRecDepth 100000

theorem within_f (n l h : Int) : FRet Tryz.prog 23 [.f (.int .i64 n),.f (.int .i64 l),.f (.int .i64 h)] [.c (.v (.bool (inRg n l h)))] := by
 refine FCall.of_ax low_cache_within ?_
 dsimp only [l_cache_within]
 refine srun_sound 100 _ _ _ _ ?_
 repeat' (first
  | (simp -implicitDefEqProofs only [*,zr,Nat.reduceAdd,Nat.reduceSub,Nat.reduceMul,Nat.reduceLT,Nat.reduceLeDiff,Nat.reduceEqDiff,Nat.reduceBEq,reduceIte,reduceCtorEq,Int.reduceLE,Int.reduceLT,Int.reduceToNat,Int.reduceEq,Int.reduceNe])
  | ((first|apply zk0|apply zk1|apply zk2|apply zk3|apply zk4|apply zk5|apply zk6|apply zk7|apply zk8|apply zk9) <;> intro hc)
  |(refine callP0 rfl ?_)
  |(refine callD0 rfl ?_)
  | fail)
 all_goals (refine ret_ve ?_;simp only [inRg, *,Bool.true_and,Bool.false_and])
theorem withinR_f (n l h : Int) : FRet Tryz.prog 31 [.f (.int .i64 n),.f (.int .i64 l),.f (.int .i64 h)] [.c (.v (.bool (inRg n l h)))] := by
 refine FCall.of_ax low_ref7_within ?_
 dsimp only [l_ref7_within]
 refine srun_sound 100 _ _ _ _ ?_
 repeat' (first
  | (simp -implicitDefEqProofs only [*,zr,Nat.reduceAdd,Nat.reduceSub,Nat.reduceMul,Nat.reduceLT,Nat.reduceLeDiff,Nat.reduceEqDiff,Nat.reduceBEq,reduceIte,reduceCtorEq,Int.reduceLE,Int.reduceLT,Int.reduceToNat,Int.reduceEq,Int.reduceNe])
  | ((first|apply zk0|apply zk1|apply zk2|apply zk3|apply zk4|apply zk5|apply zk6|apply zk7|apply zk8|apply zk9) <;> intro hc)
  |(refine callP0 rfl ?_)
  |(refine callD0 rfl ?_)
  | fail)
 all_goals (refine ret_ve ?_;simp only [inRg, *,Bool.true_and,Bool.false_and])
theorem isMoment_f (n : Int) : FRet Tryz.prog 27 [.f (.int .i64 n)] [.c (.v (.bool (inRg n 0 1000000000)))] := by
 refine FCall.of_ax low_cache_isMoment ?_
 dsimp only [l_cache_isMoment]
 refine srun_sound 100 _ _ _ _ ?_
 repeat' (first
  | (simp -implicitDefEqProofs only [*,zr,Nat.reduceAdd,Nat.reduceSub,Nat.reduceMul,Nat.reduceLT,Nat.reduceLeDiff,Nat.reduceEqDiff,Nat.reduceBEq,reduceIte,reduceCtorEq,Int.reduceLE,Int.reduceLT,Int.reduceToNat,Int.reduceEq,Int.reduceNe])
  | ((first|apply zk0|apply zk1|apply zk2|apply zk3|apply zk4|apply zk5|apply zk6|apply zk7|apply zk8|apply zk9) <;> intro hc)
  |(refine callP0 rfl ?_)
  |(refine callD0 rfl ?_)
  |(refine cP (within_f _ _ _) ?_)
  |(refine cD (within_f _ _ _) ?_)
  |(refine cF (within_f _ _ _) ?_)
  | fail)
 all_goals (refine ret_ve ?_;simp only [*])
section
variable (hDig : ∀ s : ByteArray,FRet Tryz.prog 25 [.f (.str s)] [.c (.v (.bool (isDig s)))])
include hDig
theorem checkDigests_f (l : List ByteArray) (most : Int) (hl : (l.length : Int) ≤ 9223372036854775807) : FRet Tryz.prog 26 [.f (frStrs l),.f (.int .i64 most)] [.c (.v (.int .i64 (ckDigsM l most)))] := by
 unfold ckDigsM
 refine FCall.of_ax low_cache_checkDigests ?_
 dsimp only [l_cache_checkDigests,frStrs]
 refine srun_sound 300 _ _ _ _ ?_
 repeat' (first
  | (simp -implicitDefEqProofs only [*,zr,Nat.reduceAdd,Nat.reduceSub,Nat.reduceMul,Nat.reduceLT,Nat.reduceLeDiff,Nat.reduceEqDiff,Nat.reduceBEq,reduceIte,reduceCtorEq,Int.reduceLE,Int.reduceLT,Int.reduceToNat,Int.reduceEq,Int.reduceNe])
  | ((first|apply zk0|apply zk1|apply zk2|apply zk3|apply zk4|apply zk5|apply zk6|apply zk7|apply zk8|apply zk9) <;> intro hc)
  |(refine callP0 rfl ?_)
  |(refine callD0 rfl ?_)
  | fail)
 ·rw [if_pos (of_decide_eq_true hc)]
  exact ret_v
 rw [if_neg (of_decide_eq_false hc)]
 clear hc
 refine ax_loopU (S := Nat) 33 [0,11,12] [] (fun s => [(13,.f (.int .i64 s))]) (fun s => []) (fun s => s ≤ l.length ∧ ∀ m,m < s → digErr l m = 0) (fun s => l.length - s) (0) [] ?_ ?_ fun s hs => ?_
 ·exact ⟨Nat.zero_le _,fe_0⟩
 ·refine wk_i ?_ ?_ <;> simp only [zw,Nat.reduceEqDiff,Nat.reduceBEq,Nat.reduceLT,Nat.reduceLeDiff,reduceIte,reduceCtorEq]
 obtain ⟨hi,hall⟩ := hs
 refine srun_sound 300 _ _ _ _ ?_
 rcases Nat.lt_or_ge s l.length with hlt | hge
 ·obtain ⟨x,hx⟩ := get_some hlt
  have h4 := inc64 hlt hl
  have hE := digErr_of hx
  have h2 := lt_t hlt
  have h6 := dec64' hlt hl
  obtain ⟨y,hy,hf⟩ := prev_of hx
  rw [hf] at hE
  clear hf
  unfold leS at hE
  repeat' (first
   | (simp -implicitDefEqProofs only [*,List.getElem?_map,Option.map_some,zr,Nat.reduceAdd,Nat.reduceSub,Nat.reduceMul,Nat.reduceLT,Nat.reduceLeDiff,Nat.reduceEqDiff,Nat.reduceBEq,reduceIte,reduceCtorEq,Int.reduceLE,Int.reduceLT,Int.reduceToNat,Int.reduceEq,Int.reduceNe])
   | ((first|apply zk0|apply zk1|apply zk2|apply zk3|apply zk4|apply zk5|apply zk6|apply zk7|apply zk8|apply zk9) <;> intro hc)
   |(refine callP0 rfl ?_)
   |(refine callD0 rfl ?_)
   |(refine cP (hDig _) ?_)
   |(refine cD (hDig _) ?_)
   |(refine cF (hDig _) ?_)
   | fail)
  all_goals simp only [*,if_true,if_false,Bool.false_eq_true] at hE
  all_goals first
   | exact ret_ve (by rw [ckDigs,fe_hit hall hlt (by rw [hE];decide),hE])
   |(refine ⟨s + 1,⟨hlt,fe_step hall hE⟩,by omega,?_⟩;refine wk_i ?_ ?_ <;> simp only [zw,Nat.reduceEqDiff,Nat.reduceBEq,Nat.reduceLT,Nat.reduceLeDiff,reduceIte,reduceCtorEq])
 ·simp -implicitDefEqProofs only [lt_f hge,zr,Nat.reduceAdd,Nat.reduceSub,Nat.reduceMul,Nat.reduceLT,Nat.reduceLeDiff,Nat.reduceEqDiff,Nat.reduceBEq,reduceIte,reduceCtorEq,Int.reduceLE,Int.reduceLT,Int.reduceToNat,Int.reduceEq,Int.reduceNe]
  obtain rfl : s = l.length := by omega
  rw [ckDigs,fe_none hall]
  exact ret_v
theorem checkBlobs_f (l : List Blob) (room : Int) (hl : (l.length : Int) ≤ 9223372036854775807) : FRet Tryz.prog 24 [.f (frBlobs l),.f (.int .i64 room)] [.c (.v (.int .i64 (ckBlobs l room)))] := by
 refine FCall.of_ax low_cache_checkBlobs ?_
 dsimp only [l_cache_checkBlobs,frBlobs]
 refine srun_sound 300 _ _ _ _ ?_
 repeat' (first
  | (simp -implicitDefEqProofs only [*,zr,Nat.reduceAdd,Nat.reduceSub,Nat.reduceMul,Nat.reduceLT,Nat.reduceLeDiff,Nat.reduceEqDiff,Nat.reduceBEq,reduceIte,reduceCtorEq,Int.reduceLE,Int.reduceLT,Int.reduceToNat,Int.reduceEq,Int.reduceNe])
  | ((first|apply zk0|apply zk1|apply zk2|apply zk3|apply zk4|apply zk5|apply zk6|apply zk7|apply zk8|apply zk9) <;> intro hc)
  |(refine callP0 rfl ?_)
  |(refine callD0 rfl ?_)
  | fail)
 ·rw [ckBlobs,if_pos (of_decide_eq_true hc)]
  exact ret_v
 have h30 : l.length ≤ 3000 := by simp at hc;omega
 rw [ckBlobs,if_neg (of_decide_eq_false hc)]
 clear hc
 refine ax_loopU (S := Nat) 68 [0,1,11,12] [] (fun s => [(13,.f (.int .i64 s)),(5,.f (.int .i64 (sumSz (l.take s))))]) (fun s => []) (fun s => s ≤ l.length ∧ ∀ m,m < s → blobErr l m = 0) (fun s => l.length - s) (0) [] ?_ ?_ fun s hs => ?_
 ·exact ⟨Nat.zero_le _,fe_0⟩
 ·refine wk_i ?_ ?_ <;> simp only [List.take_zero,sumSz,zw,Nat.reduceEqDiff,Nat.reduceBEq,Nat.reduceLT,Nat.reduceLeDiff,reduceIte,reduceCtorEq]
 obtain ⟨hi,hall⟩ := hs
 refine srun_sound 300 _ _ _ _ ?_
 have hr := take_range hi hall
 rcases Nat.lt_or_ge s l.length with hlt | hge
 ·obtain ⟨x,hx⟩ := get_some hlt
  have h4 := inc64 hlt hl
  have hE := blobErr_of hx
  have hsum := sum_snoc hx
  have hb := sum_range hr
  obtain ⟨xd,xs,xu,xn,xp⟩ := x
  simp only [leS] at hE hsum
  have hwr : blobErr l s = 0 → IntKind.i64.wrap (sumSz (l.take s) + xs) = sumSz (l.take (s + 1)) := fun h => by
   have h1 := (blobErr_zero hx h).2
   rw [hsum,wrap64]
   ·simp only at h1;omega
   ·simp only at h1;simp only [List.length_take] at hb;omega
  clear hr hb hsum
  have h2 := lt_t hlt
  have h6 := dec64' hlt hl
  obtain ⟨y,hy,hf⟩ := prev_of hx
  rw [hf] at hE
  clear hf
  obtain ⟨yd,ys,yu,yn,yp⟩ := y
  simp only at hE
  repeat' (first
   | (simp -implicitDefEqProofs only [*,List.getElem?_map,Option.map_some,fBlob,zr,Nat.reduceAdd,Nat.reduceSub,Nat.reduceMul,Nat.reduceLT,Nat.reduceLeDiff,Nat.reduceEqDiff,Nat.reduceBEq,reduceIte,reduceCtorEq,Int.reduceLE,Int.reduceLT,Int.reduceToNat,Int.reduceEq,Int.reduceNe])
   | ((first|apply zk0|apply zk1|apply zk2|apply zk3|apply zk4|apply zk5|apply zk6|apply zk7|apply zk8|apply zk9) <;> intro hc)
   |(refine callP0 rfl ?_)
   |(refine callD0 rfl ?_)
   |(refine cP (hDig _) ?_)
   |(refine cD (hDig _) ?_)
   |(refine cF (hDig _) ?_)
   |(refine cP (within_f _ _ _) ?_)
   |(refine cD (within_f _ _ _) ?_)
   |(refine cF (within_f _ _ _) ?_)
   |(refine cP (isMoment_f _) ?_)
   |(refine cD (isMoment_f _) ?_)
   |(refine cF (isMoment_f _) ?_)
   | fail)
  all_goals simp only [*,if_true,if_false,Bool.false_eq_true,Bool.true_and,Bool.and_true,Bool.false_and,Bool.and_false] at hE
  all_goals first
   | exact ret_ve (by rw [fe_hit hall hlt (by rw [hE];decide),hE];rfl)
   |(refine ⟨s + 1,⟨hlt,fe_step hall hE⟩,by omega,?_⟩;refine wk_i ?_ ?_ <;> simp only [zw,Nat.reduceEqDiff,Nat.reduceBEq,Nat.reduceLT,Nat.reduceLeDiff,reduceIte,reduceCtorEq])
 ·obtain rfl : s = l.length := by omega
  rw [fe_none hall,List.take_length]
  have h2 := lt_f hge
  simp only [ne_eq,not_true_eq_false,if_false]
  repeat' (first
   | (simp -implicitDefEqProofs only [*,zr,Nat.reduceAdd,Nat.reduceSub,Nat.reduceMul,Nat.reduceLT,Nat.reduceLeDiff,Nat.reduceEqDiff,Nat.reduceBEq,reduceIte,reduceCtorEq,Int.reduceLE,Int.reduceLT,Int.reduceToNat,Int.reduceEq,Int.reduceNe])
   | ((first|apply zk0|apply zk1|apply zk2|apply zk3|apply zk4|apply zk5|apply zk6|apply zk7|apply zk8|apply zk9) <;> intro hc)
   |(refine callP0 rfl ?_)
   |(refine callD0 rfl ?_)
   | fail)
  all_goals refine ret_ve ?_
  ·rw [if_pos (of_decide_eq_true hc)]
  ·rw [if_neg (of_decide_eq_false hc)]
def CBound (c : Cache) : Prop := (c.2.2.1.length : Int) ≤ 9223372036854775807 ∧ (c.2.2.2.length : Int) ≤ 9223372036854775807 ∧ ∀ e ∈ c.2.2.2,(e.2.1.length : Int) ≤ 9223372036854775807
theorem CheckCache_f (c : Cache) (hb : CBound c) : FRet Tryz.prog 10 [aCache c] [.c (.v (.int .i64 (ckCache c)))] := by
 obtain ⟨room,lease,bl,en⟩ := c
 obtain ⟨hb1,hb2,hb3⟩ := hb
 simp only at hb1 hb2 hb3
 refine FCall.of_ax low_cache_CheckCache ?_
 dsimp only [l_cache_CheckCache,aCache]
 unfold ckCache
 dsimp only
 refine srun_sound 300 _ _ _ _ ?_
 repeat' (first
  | (simp -implicitDefEqProofs only [*,frEntries,frBlobs,frStrs,zr,Nat.reduceAdd,Nat.reduceSub,Nat.reduceMul,Nat.reduceLT,Nat.reduceLeDiff,Nat.reduceEqDiff,Nat.reduceBEq,reduceIte,reduceCtorEq,Int.reduceLE,Int.reduceLT,Int.reduceToNat,Int.reduceEq,Int.reduceNe])
  | ((first|apply zk0|apply zk1|apply zk2|apply zk3|apply zk4|apply zk5|apply zk6|apply zk7|apply zk8|apply zk9) <;> intro hc)
  |(refine callP0 rfl ?_)
  |(refine callD0 rfl ?_)
  |(refine cP (within_f _ _ _) ?_)
  |(refine cD (within_f _ _ _) ?_)
  |(refine cF (within_f _ _ _) ?_)
  |(refine cP (checkBlobs_f hDig _ _ hb1) ?_)
  |(refine cD (checkBlobs_f hDig _ _ hb1) ?_)
  |(refine cF (checkBlobs_f hDig _ _ hb1) ?_)
  | fail)
 all_goals try (refine ret_ve ?_;simp_all;done)
 have hR : (if ckBlobs bl room ≠ 0 then ckBlobs bl room else if (1000 : Int) < en.length then 2 else firstErr (entErr en) 0 en.length) = firstErr (entErr en) 0 en.length := by
  rw [if_neg (by simp_all),if_neg (of_decide_eq_false hc)]
 refine ax_loopU (S := Nat) 66 [1,30,31] [1] (fun s => [(32,.f (.int .i64 s))]) (fun s => []) (fun s => s ≤ en.length ∧ ∀ m,m < s → entErr en m = 0) (fun s => en.length - s) (0) [] ?_ ?_ fun s hs => ?_
 ·exact ⟨Nat.zero_le _,fe_0⟩
 ·refine wk_i ?_ ?_ <;> simp only [zw,Nat.reduceEqDiff,Nat.reduceBEq,Nat.reduceLT,Nat.reduceLeDiff,reduceIte,reduceCtorEq]
 obtain ⟨hi,hall⟩ := hs
 refine srun_sound 300 _ _ _ _ ?_
 rcases Nat.lt_or_ge s en.length with hlt | hge
 ·obtain ⟨x,hx⟩ := get_some hlt
  have h4 := inc64 hlt hb2
  have hE := entErr_of hx
  have hxl := hb3 x (List.mem_of_getElem? hx)
  obtain ⟨xk,xr,xu⟩ := x
  simp only [leS] at hE hxl
  have h2 := lt_t hlt
  have h6 := dec64' hlt hb2
  obtain ⟨y,hy,hf⟩ := prev_of hx
  rw [hf] at hE
  clear hf
  obtain ⟨yk,yr,yu⟩ := y
  simp only at hE
  repeat' (first
   | (simp -implicitDefEqProofs only [*,List.getElem?_map,Option.map_some,fEntry,frStrs,zr,Nat.reduceAdd,Nat.reduceSub,Nat.reduceMul,Nat.reduceLT,Nat.reduceLeDiff,Nat.reduceEqDiff,Nat.reduceBEq,reduceIte,reduceCtorEq,Int.reduceLE,Int.reduceLT,Int.reduceToNat,Int.reduceEq,Int.reduceNe])
   | ((first|apply zk0|apply zk1|apply zk2|apply zk3|apply zk4|apply zk5|apply zk6|apply zk7|apply zk8|apply zk9) <;> intro hc)
   |(refine callP0 rfl ?_)
   |(refine callD0 rfl ?_)
   |(refine cP (hDig _) ?_)
   |(refine cD (hDig _) ?_)
   |(refine cF (hDig _) ?_)
   |(refine cP (within_f _ _ _) ?_)
   |(refine cD (within_f _ _ _) ?_)
   |(refine cF (within_f _ _ _) ?_)
   |(refine cP (isMoment_f _) ?_)
   |(refine cD (isMoment_f _) ?_)
   |(refine cF (isMoment_f _) ?_)
   |(refine cP (checkDigests_f hDig _ _ hxl) ?_)
   |(refine cD (checkDigests_f hDig _ _ hxl) ?_)
   |(refine cF (checkDigests_f hDig _ _ hxl) ?_)
   | fail)
  all_goals try simp only [decide_eq_true_eq,decide_eq_false_iff_not] at *
  all_goals simp only [*,Int.reduceEq,Int.reduceNe,if_true,if_false,ne_eq,not_true_eq_false,not_false_eq_true,reduceIte,Bool.false_eq_true,Bool.true_and,Bool.and_true,Bool.false_and,Bool.and_false,Bool.not_true,Bool.not_false,Bool.true_or,Bool.or_true,Bool.false_or,Bool.or_false,decide_true,decide_false,reduceCtorEq] at hE
  all_goals first
   | exact ret_ve (by rw [fe_hit hall hlt (by rw [hE];decide),hE])
   | exact ret_ve (by rw [fe_hit hall hlt (by rw [hE];assumption),hE])
   |(refine ⟨s + 1,⟨hlt,fe_step hall hE⟩,by omega,?_⟩;refine wk_i ?_ ?_ <;> simp only [zw,Nat.reduceEqDiff,Nat.reduceBEq,Nat.reduceLT,Nat.reduceLeDiff,reduceIte,reduceCtorEq])
 ·obtain rfl : s = en.length := by omega
  have h0 := fe_none hall
  have h2 := lt_f hge
  rw [h0] at hR
  repeat' (first
   | (simp -implicitDefEqProofs only [*,zr,Nat.reduceAdd,Nat.reduceSub,Nat.reduceMul,Nat.reduceLT,Nat.reduceLeDiff,Nat.reduceEqDiff,Nat.reduceBEq,reduceIte,reduceCtorEq,Int.reduceLE,Int.reduceLT,Int.reduceToNat,Int.reduceEq,Int.reduceNe])
   | ((first|apply zk0|apply zk1|apply zk2|apply zk3|apply zk4|apply zk5|apply zk6|apply zk7|apply zk8|apply zk9) <;> intro hc)
   |(refine callP0 rfl ?_)
   |(refine callD0 rfl ?_)
   | fail)
  exact ret_v
theorem New_f (room lease : Int) : FRet Tryz.prog 22 [.f (.int .i64 room),.f (.int .i64 lease)] [.agg (rcCache (if okNew room lease = true then (room,lease,[],[]) else emptyC)),.c (.v (.int .i64 (if okNew room lease = true then 0 else 1)))] := by
 have hck := ckCache_new room lease
 refine fret_w (FCall.of_ax low_cache_New ?_)
 dsimp only [l_cache_New]
 refine srun_sound 300 _ _ _ _ ?_
 cases hn : okNew room lease
 all_goals rw [hn] at hck
 repeat' (first
  | (simp -implicitDefEqProofs only [*,zr,Nat.reduceAdd,Nat.reduceSub,Nat.reduceMul,Nat.reduceLT,Nat.reduceLeDiff,Nat.reduceEqDiff,Nat.reduceBEq,reduceIte,reduceCtorEq,Int.reduceLE,Int.reduceLT,Int.reduceToNat,Int.reduceEq,Int.reduceNe])
  | ((first|apply zk0|apply zk1|apply zk2|apply zk3|apply zk4|apply zk5|apply zk6|apply zk7|apply zk8|apply zk9) <;> intro hc)
  |(refine callP0 rfl ?_)
  |(refine callD0 rfl ?_)
  |(refine cP (CheckCache_f hDig (_,_,[],[]) (by simp [CBound])) ?_)
  |(refine cD (CheckCache_f hDig (_,_,[],[]) (by simp [CBound])) ?_)
  |(refine cF (CheckCache_f hDig (_,_,[],[]) (by simp [CBound])) ?_)
  | fail)
 all_goals exact retw_p2 rfl (by first | exact LeL.refl _ | (repeat (first|exact LeL.refl _ | exact LeA.refl _ | exact LeA.nil _ | refine LeL.cons ?_ ?_ | refine LeA.agg ?_)))
end
theorem trim_f (s : ByteArray) (hs : s.size ≤ 9223372036854775807) : FRet Tryz.prog 41 [.f (.str s),.f (.str ⟨#[48,49,50,51,52,53,54,55,56,57,97,98,99,100,101,102]⟩)] [.c (.v (.str ⟨(Lib.trimS s.data.toList hexS).toArray⟩))] :=
 fret_calls (by kernel_rfl) fun G Z w vs h1 h2 => by
  obtain ⟨v0,v1,rfl,r0,r1⟩ := args2 h1 h2
  obtain rfl := r0.str_
  obtain rfl := r1.str_
  have hcon := Any.strings_Trim_laid Tryz.lays160 (by kernel_rfl) s ⟨#[48,49,50,51,52,53,54,55,56,57,97,98,99,100,101,102]⟩ w hs (by decide) (ascii_of_all (by decide))
  change Calls Tryz.prog 41 _ _ _ at hcon
  exact hcon.mono fun e w' ⟨he,hb⟩ => ⟨_,he,fun Z' => .str _,hb⟩
theorem isDigest_f (s : ByteArray) : FRet Tryz.prog 25 [.f (.str s)] [.c (.v (.bool (isDig s)))] := by
 refine FCall.of_ax low_blob_IsDigest ?_
 dsimp only [l_blob_IsDigest]
 refine srun_sound 300 _ _ _ _ ?_
 by_cases h16 : s.size = 16
 ·have h1 : decide ((s.size : Int) = 16) = true := by simp;omega
  have h2 : isDig s = decide ((⟨(Lib.trimS s.data.toList hexS).toArray⟩ : ByteArray) = ⟨#[]⟩) := by
   unfold isDig
   rw [show (s.size == 16) = true by simpa using h16,Bool.true_and]
   cases h : Lib.trimS s.data.toList hexS <;> simp
  rw [h2]
  clear h16 h2
  repeat' (first
   | (simp -implicitDefEqProofs only [*,zr,Nat.reduceAdd,Nat.reduceSub,Nat.reduceMul,Nat.reduceLT,Nat.reduceLeDiff,Nat.reduceEqDiff,Nat.reduceBEq,reduceIte,reduceCtorEq,Int.reduceLE,Int.reduceLT,Int.reduceToNat,Int.reduceEq,Int.reduceNe])
   | ((first|apply zk0|apply zk1|apply zk2|apply zk3|apply zk4|apply zk5|apply zk6|apply zk7|apply zk8|apply zk9) <;> intro hc)
   |(refine callP0 rfl ?_)
   |(refine callD0 rfl ?_)
   |(refine cP (trim_f s (by simp at h1;omega)) ?_)
   |(refine cD (trim_f s (by simp at h1;omega)) ?_)
   |(refine cF (trim_f s (by simp at h1;omega)) ?_)
   | fail)
  exact ret_v
 ·have h1 : decide ((s.size : Int) = 16) = false := by simp;omega
  have h2 : isDig s = false := by unfold isDig;rw [show (s.size == 16) = false by simpa using h16];rfl
  rw [h2]
  clear h16 h2
  repeat' (first
   | (simp -implicitDefEqProofs only [*,zr,Nat.reduceAdd,Nat.reduceSub,Nat.reduceMul,Nat.reduceLT,Nat.reduceLeDiff,Nat.reduceEqDiff,Nat.reduceBEq,reduceIte,reduceCtorEq,Int.reduceLE,Int.reduceLT,Int.reduceToNat,Int.reduceEq,Int.reduceNe])
   | ((first|apply zk0|apply zk1|apply zk2|apply zk3|apply zk4|apply zk5|apply zk6|apply zk7|apply zk8|apply zk9) <;> intro hc)
   |(refine callP0 rfl ?_)
   |(refine callD0 rfl ?_)
   | fail)
  exact ret_v
structure COk (c : Cache) : Prop where
 room : 0 ≤ c.1 ∧ c.1 ≤ 1000000000
 lease : 0 ≤ c.2.1 ∧ c.2.1 ≤ 1000000
 blen : c.2.2.1.length ≤ 3000
 berr : ∀ m,m < c.2.2.1.length → blobErr c.2.2.1 m = 0
 bsum : sumSz c.2.2.1 ≤ c.1
 elen : c.2.2.2.length ≤ 1000
 eerr : ∀ m,m < c.2.2.2.length → entErr c.2.2.2 m = 0
theorem cok_of {c : Cache} (h : ckCache c = 0) : COk c := by
 unfold ckCache at h
 by_cases h1 : (inRg c.1 0 1000000000 && inRg c.2.1 0 1000000) = true
 ·rw [if_pos h1] at h
  by_cases h2 : ckBlobs c.2.2.1 c.1 = 0
  ·rw [if_neg (by simpa using h2)] at h
   by_cases h3 : (1000 : Int) < c.2.2.2.length
   ·rw [if_pos h3] at h;cases h
   ·rw [if_neg h3] at h
    unfold ckBlobs at h2
    by_cases h4 : (3000 : Int) < c.2.2.1.length
    ·rw [if_pos h4] at h2;cases h2
    ·rw [if_neg h4] at h2
     by_cases h5 : firstErr (blobErr c.2.2.1) 0 c.2.2.1.length = 0
     ·rw [if_neg (by simpa using h5)] at h2
      by_cases h6 : c.1 < sumSz c.2.2.1
      ·rw [if_pos h6] at h2;cases h2
      ·simp [inRg] at h1
       exact ⟨by omega,by omega,by omega,fe_zero h5,by omega,by omega,fe_zero h⟩
     ·rw [if_pos h5] at h2;exact absurd h2 h5
  ·rw [if_pos h2] at h;exact absurd h h2
 ·rw [if_neg h1] at h;cases h
theorem COk.range {c : Cache} (h : COk c) : ∀ b ∈ c.2.2.1,0 ≤ b.2.1 ∧ b.2.1 ≤ 100000000 := by
 have := take_range (Nat.le_refl _) h.berr
 rwa [List.take_length] at this
theorem COk.wsum {c : Cache} (h : COk c) : wsum c.2.2.1 = sumSz c.2.2.1 := wsum_eq (by have := h.blen;omega) h.range
theorem entErr_zero {l : List Entry} {i : Nat} {e : Entry} (he : l[i]? = some e) (h : entErr l i = 0) : isDig e.1 = true ∧ e.2.1.length ≤ 200 ∧ ckDigs e.2.1 = 0 ∧ prevV l i (fun d => if leS e.1 d.1 = true then 8 else 0) = 0 ∧ 0 ≤ e.2.2 ∧ e.2.2 ≤ 1000000000 := by
 rw [entErr_of he] at h
 by_cases h1 : isDig e.1 = true
 ·rw [if_pos h1] at h
  by_cases h2 : ckDigsM e.2.1 200 = 0
  ·rw [if_neg (by simpa using h2)] at h
   by_cases h3 : inRg e.2.2 0 1000000000 = true
   ·rw [if_pos h3] at h
    unfold ckDigsM at h2
    by_cases h4 : (200 : Int) < e.2.1.length
    ·rw [if_pos h4] at h2;cases h2
    ·rw [if_neg h4] at h2
     simp [inRg] at h3
     exact ⟨h1,by omega,h2,h,h3⟩
   ·rw [if_neg h3] at h;cases h
  ·rw [if_pos h2] at h;exact absurd h h2
 ·rw [if_neg h1] at h;cases h
theorem COk.refs {c : Cache} (h : COk c) : ∀ e ∈ c.2.2.2,e.2.1.length ≤ 200 := fun e he => by
 obtain ⟨m,hm⟩ := List.mem_iff_getElem?.1 he
 exact (entErr_zero hm (h.eerr m (List.getElem?_eq_some_iff.1 hm).1)).2.1
theorem awake_f : FRet Tryz.prog 9 [] [.c (.v (.bool true))] := by
 have hn : okNew 5 7 = true := by decide
 have hN := New_f isDigest_f 5 7
 rw [hn] at hN
 simp only [if_true] at hN
 refine FCall.of_ax low_law7_awake ?_
 dsimp only [l_law7_awake]
 refine srun_sound 300 _ _ _ _ ?_
 repeat' (first
  | (simp -implicitDefEqProofs only [*,rcCache,zr,Nat.reduceAdd,Nat.reduceSub,Nat.reduceMul,Nat.reduceLT,Nat.reduceLeDiff,Nat.reduceEqDiff,Nat.reduceBEq,reduceIte,reduceCtorEq,Int.reduceLE,Int.reduceLT,Int.reduceToNat,Int.reduceEq,Int.reduceNe])
  | ((first|apply zk0|apply zk1|apply zk2|apply zk3|apply zk4|apply zk5|apply zk6|apply zk7|apply zk8|apply zk9) <;> intro hc)
  |(refine callP0 rfl ?_)
  |(refine callD0 rfl ?_)
  |(refine cP (hN) ?_)
  |(refine cD (hN) ?_)
  |(refine cF (hN) ?_)
  | fail)
 exact ret_v
end Go.Proofs.YthniagdphhcnkaaGreatDoor
