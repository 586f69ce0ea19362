/-
  The reference's New, Used, Broken, comparisons; the law's walk. No statement of the seat is proved here; no conditions.
-/
import Derived.Test.YthniagdphhcnkaaGreatDoorCaC
namespace Go.Proofs.YthniagdphhcnkaaGreatDoor
open Go.RowKit Go.Shelf
set_option linter.unusedVariables false
set_option linter.unusedSimpArgs false
set_option maxRecDepth 100000

def hexB (b : UInt8) : Bool := decide ((48 : Int) ≤ (b.toNat : Int)) && decide ((b.toNat : Int) ≤ 57) || decide ((97 : Int) ≤ (b.toNat : Int)) && decide ((b.toNat : Int) ≤ 102)
theorem hexB_eq (b : UInt8) : hexS.contains b = hexB b := by
 obtain ⟨⟨n,hn⟩⟩ := b
 have : ∀ k : _root_.Fin 256,hexS.contains ⟨⟨k⟩⟩ = hexB ⟨⟨k⟩⟩ := by decide +kernel
 exact this ⟨n,hn⟩
theorem dropWhile_nil {α : Type} (p : α → Bool) : ∀ l : List α,(l.dropWhile p).isEmpty = l.all p
 | [] => rfl
 | a :: l => by
  cases h : p a
  ·simp [List.dropWhile,h]
  ·simp [List.dropWhile,h,dropWhile_nil p l]
theorem trimS_nil (l cs : List UInt8) : (Lib.trimS l cs).isEmpty = l.all (cs.contains ·) := by
 unfold Lib.trimS Lib.trimLeftS Lib.trimRightS
 rw [dropWhile_nil]
 cases h : l.all (cs.contains ·)
 ·have h2 : (l.reverse.dropWhile (cs.contains ·)).isEmpty = false := by rw [dropWhile_nil,List.all_reverse];exact h
  cases h3 : l.reverse.dropWhile (cs.contains ·) with
  | nil => rw [h3] at h2;cases h2
  | cons a r =>
   have h4 : cs.contains a = false := by
    have := List.head?_dropWhile_not (cs.contains ·) l.reverse
    rw [h3] at this
    simpa using this
   rw [List.all_reverse,List.all_cons,h4];rfl
 ·have h2 : (l.reverse.dropWhile (cs.contains ·)).isEmpty = true := by rw [dropWhile_nil,List.all_reverse];exact h
  rw [List.isEmpty_iff.1 h2];rfl
theorem isDig_hex (s : ByteArray) : isDig s = (s.data.toList.all hexB && decide (s.size = 16)) := by
 unfold isDig
 rw [trimS_nil,show (fun x => hexS.contains x) = hexB from funext hexB_eq,Bool.and_comm];rfl
theorem isDigestR_f (s0 : ByteArray) (hl : (s0.size : Int) ≤ 9223372036854775807) : FRet Tryz.prog 32 [.f (.str s0)] [.c (.v (.bool (isDig s0)))] := by
 rw [isDig_hex]
 have hsz : s0.size = s0.data.toList.length := by simp
 refine FCall.of_ax low_ref1_IsDigest ?_
 dsimp only [l_ref1_IsDigest]
 refine srun_sound 300 _ _ _ _ ?_
 repeat' (first
  | (simp -implicitDefEqProofs only [*,zr,Nat.reduceAdd,Nat.reduceSub,Nat.reduceMul,Nat.reduceLT,Nat.reduceLeDiff,Nat.reduceEqDiff,Nat.reduceBEq,reduceIte,reduceCtorEq,Int.reduceLE,Int.reduceLT,Int.reduceToNat,Int.reduceEq,Int.reduceNe])
  | ((first|apply zk0|apply zk1|apply zk2|apply zk3|apply zk4|apply zk5|apply zk6|apply zk7|apply zk8|apply zk9) <;> intro hc)
  |(refine callP0 rfl ?_)
  |(refine callD0 rfl ?_)
  | fail)
 refine ax_loopU (S := Nat) 36 [0] [] (fun s => [(3,.f (.int .i64 s))]) (fun s => []) (fun s => s ≤ s0.size ∧ ∀ (m : Nat) b,m < s → s0.data.toList[m]? = some b → hexB b = true) (fun s => s0.size - s) (0) [] ?_ ?_ fun s hs => ?_
 ·exact ⟨Nat.zero_le _,fun m b h => absurd h (by omega)⟩
 ·refine wk_i ?_ ?_ <;> simp only [zw,Nat.reduceEqDiff,Nat.reduceBEq,Nat.reduceLT,Nat.reduceLeDiff,reduceIte,reduceCtorEq]
 obtain ⟨hi,hall⟩ := hs
 refine srun_sound 300 _ _ _ _ ?_
 rcases Nat.lt_or_ge s s0.size with hlt | hge
 ·obtain ⟨x,hx⟩ := get_some (l := s0.data.toList) (i := s) (by omega)
  have h4 := inc64 hlt hl
  have h2 := lt_t hlt
  have hE : hexB x = (decide ((48 : Int) ≤ (x.toNat : Int)) && decide ((x.toNat : Int) ≤ 57) || decide ((97 : Int) ≤ (x.toNat : Int)) && decide ((x.toNat : Int) ≤ 102)) := rfl
  have hmem := List.mem_of_getElem? hx
  clear hsz
  repeat' (first
   | (simp -implicitDefEqProofs only [*,zr,Nat.reduceAdd,Nat.reduceSub,Nat.reduceMul,Nat.reduceLT,Nat.reduceLeDiff,Nat.reduceEqDiff,Nat.reduceBEq,reduceIte,reduceCtorEq,Int.reduceLE,Int.reduceLT,Int.reduceToNat,Int.reduceEq,Int.reduceNe])
   | ((first|apply zk0|apply zk1|apply zk2|apply zk3|apply zk4|apply zk5|apply zk6|apply zk7|apply zk8|apply zk9) <;> intro hc)
   |(refine callP0 rfl ?_)
   |(refine callD0 rfl ?_)
   | fail)
  all_goals simp only [*,Bool.false_and,Bool.and_false,Bool.true_and,Bool.and_true,Bool.or_true,Bool.true_or,Bool.or_false,Bool.false_or] at hE
  all_goals first
   |(refine ret_ve ?_;rw [List.all_eq_false.2 ⟨x,hmem,by simp [hE]⟩,Bool.false_and])
   |(refine ⟨s + 1,⟨hlt,fun m b hm hb => ?_⟩,by omega,?_⟩
     ·rcases Nat.lt_succ_iff_lt_or_eq.1 hm with h1 | rfl
      ·exact hall m b h1 hb
      ·rw [hx] at hb;obtain rfl := Option.some.inj hb;exact hE
     ·refine wk_i ?_ ?_ <;> simp only [zw,Nat.reduceEqDiff,Nat.reduceBEq,Nat.reduceLT,Nat.reduceLeDiff,reduceIte,reduceCtorEq])
 ·obtain rfl : s = s0.size := by omega
  have h2 := lt_f hge
  have ha : s0.data.toList.all hexB = true := List.all_eq_true.2 fun b hb => by
   obtain ⟨m,hm⟩ := List.mem_iff_getElem?.1 hb
   exact hall m b (by have := (List.getElem?_eq_some_iff.1 hm).1;omega) hm
  rw [ha,Bool.true_and]
  clear hsz
  repeat' (first
   | (simp -implicitDefEqProofs only [*,zr,Nat.reduceAdd,Nat.reduceSub,Nat.reduceMul,Nat.reduceLT,Nat.reduceLeDiff,Nat.reduceEqDiff,Nat.reduceBEq,reduceIte,reduceCtorEq,Int.reduceLE,Int.reduceLT,Int.reduceToNat,Int.reduceEq,Int.reduceNe])
   | ((first|apply zk0|apply zk1|apply zk2|apply zk3|apply zk4|apply zk5|apply zk6|apply zk7|apply zk8|apply zk9) <;> intro hc)
   |(refine callP0 rfl ?_)
   |(refine callD0 rfl ?_)
   | fail)
  refine ret_ve ?_
  congr 1
  simp
  omega
theorem rising_f (l : List ByteArray) (hl : (l.length : Int) ≤ 9223372036854775807) (hs : ∀ d ∈ l,(d.size : Int) ≤ 9223372036854775807) : FRet Tryz.prog 34 [.f (frStrs l)] [.c (.v (.int .i64 (ckDigs l)))] := by
 refine FCall.of_ax low_ref7_rising ?_
 dsimp only [l_ref7_rising,frStrs]
 refine srun_sound 300 _ _ _ _ ?_
 repeat' (first
  | (simp -implicitDefEqProofs only [*,zr,Nat.reduceAdd,Nat.reduceSub,Nat.reduceMul,Nat.reduceLT,Nat.reduceLeDiff,Nat.reduceEqDiff,Nat.reduceBEq,reduceIte,reduceCtorEq,Int.reduceLE,Int.reduceLT,Int.reduceToNat,Int.reduceEq,Int.reduceNe])
  | ((first|apply zk0|apply zk1|apply zk2|apply zk3|apply zk4|apply zk5|apply zk6|apply zk7|apply zk8|apply zk9) <;> intro hc)
  |(refine callP0 rfl ?_)
  |(refine callD0 rfl ?_)
  | fail)
 refine ax_loopU (S := Nat) 30 [0] [] (fun s => [(3,.f (.int .i64 s))]) (fun s => []) (fun s => s ≤ l.length ∧ ∀ m,m < s → digErr l m = 0) (fun s => l.length - s) (0) [] ?_ ?_ fun s hs => ?_
 ·exact ⟨Nat.zero_le _,fe_0⟩
 ·refine wk_i ?_ ?_ <;> simp only [zw,Nat.reduceEqDiff,Nat.reduceBEq,Nat.reduceLT,Nat.reduceLeDiff,reduceIte,reduceCtorEq]
 rename_i hsz
 obtain ⟨hi,hall⟩ := hs
 refine srun_sound 300 _ _ _ _ ?_
 rcases Nat.lt_or_ge s l.length with hlt | hge
 ·obtain ⟨x,hx⟩ := get_some hlt
  have h4 := inc64 hlt hl
  have hE := digErr_of hx
  have h2 := lt_t hlt
  have h6 := dec64' hlt hl
  obtain ⟨y,hy,hf⟩ := prev_of hx
  rw [hf] at hE
  clear hf
  unfold leS at hE
  repeat' (first
   | (simp -implicitDefEqProofs only [*,List.getElem?_map,Option.map_some,zr,Nat.reduceAdd,Nat.reduceSub,Nat.reduceMul,Nat.reduceLT,Nat.reduceLeDiff,Nat.reduceEqDiff,Nat.reduceBEq,reduceIte,reduceCtorEq,Int.reduceLE,Int.reduceLT,Int.reduceToNat,Int.reduceEq,Int.reduceNe])
   | ((first|apply zk0|apply zk1|apply zk2|apply zk3|apply zk4|apply zk5|apply zk6|apply zk7|apply zk8|apply zk9) <;> intro hc)
   |(refine callP0 rfl ?_)
   |(refine callD0 rfl ?_)
   |(refine cP (isDigestR_f x (hsz x (List.mem_of_getElem? hx))) ?_)
   |(refine cD (isDigestR_f x (hsz x (List.mem_of_getElem? hx))) ?_)
   |(refine cF (isDigestR_f x (hsz x (List.mem_of_getElem? hx))) ?_)
   | fail)
  all_goals simp only [*,if_true,if_false,Bool.false_eq_true] at hE
  all_goals first
   | exact ret_ve (by rw [ckDigs,fe_hit hall hlt (by rw [hE];decide),hE])
   |(refine ⟨s + 1,⟨hlt,fe_step hall hE⟩,by omega,?_⟩;refine wk_i ?_ ?_ <;> simp only [zw,Nat.reduceEqDiff,Nat.reduceBEq,Nat.reduceLT,Nat.reduceLeDiff,reduceIte,reduceCtorEq])
 ·obtain rfl : s = l.length := by omega
  have h2 := lt_f hge
  rw [ckDigs,fe_none hall]
  repeat' (first
   | (simp -implicitDefEqProofs only [*,zr,Nat.reduceAdd,Nat.reduceSub,Nat.reduceMul,Nat.reduceLT,Nat.reduceLeDiff,Nat.reduceEqDiff,Nat.reduceBEq,reduceIte,reduceCtorEq,Int.reduceLE,Int.reduceLT,Int.reduceToNat,Int.reduceEq,Int.reduceNe])
   | ((first|apply zk0|apply zk1|apply zk2|apply zk3|apply zk4|apply zk5|apply zk6|apply zk7|apply zk8|apply zk9) <;> intro hc)
   |(refine callP0 rfl ?_)
   |(refine callD0 rfl ?_)
   | fail)
  exact ret_v
theorem bytesOf_f (bl : List Blob) (hb : (bl.length : Int) ≤ 9223372036854775807) : FRet Tryz.prog 33 [.f (frBlobs bl)] [.c (.v (.int .i64 (wsum bl)))] := by
 refine FCall.of_ax low_ref7_bytesOf ?_
 dsimp only [l_ref7_bytesOf,frBlobs]
 refine srun_sound 300 _ _ _ _ ?_
 repeat' (first
  | (simp -implicitDefEqProofs only [*,zr,Nat.reduceAdd,Nat.reduceSub,Nat.reduceMul,Nat.reduceLT,Nat.reduceLeDiff,Nat.reduceEqDiff,Nat.reduceBEq,reduceIte,reduceCtorEq,Int.reduceLE,Int.reduceLT,Int.reduceToNat,Int.reduceEq,Int.reduceNe])
  | ((first|apply zk0|apply zk1|apply zk2|apply zk3|apply zk4|apply zk5|apply zk6|apply zk7|apply zk8|apply zk9) <;> intro hc)
  |(refine callP0 rfl ?_)
  |(refine callD0 rfl ?_)
  | fail)
 refine ax_loopU (S := Nat) 19 [0] [] (fun s => [(4,.f (.int .i64 s)),(3,.f (.int .i64 (wsum (bl.take s))))]) (fun s => []) (fun s => s ≤ bl.length) (fun s => bl.length - s) (0) [] ?_ ?_ fun s hs => ?_
 ·exact Nat.zero_le _
 ·refine wk_i ?_ ?_ <;> simp only [List.take_zero,wsum_nil,zw,Nat.reduceEqDiff,Nat.reduceBEq,Nat.reduceLT,Nat.reduceLeDiff,reduceIte,reduceCtorEq]
 refine srun_sound 300 _ _ _ _ ?_
 rcases Nat.lt_or_ge s bl.length with hlt | hge
 ·obtain ⟨x,hx⟩ := get_some hlt
  have h4 := inc64 hlt hb
  have h2 := lt_t hlt
  have hsum := (wsum_snoc hx).symm
  obtain ⟨xd,xs,xu,xn,xp⟩ := x
  simp only at hsum
  repeat' (first
   | (simp -implicitDefEqProofs only [*,List.getElem?_map,Option.map_some,fBlob,zr,Nat.reduceAdd,Nat.reduceSub,Nat.reduceMul,Nat.reduceLT,Nat.reduceLeDiff,Nat.reduceEqDiff,Nat.reduceBEq,reduceIte,reduceCtorEq,Int.reduceLE,Int.reduceLT,Int.reduceToNat,Int.reduceEq,Int.reduceNe])
   | ((first|apply zk0|apply zk1|apply zk2|apply zk3|apply zk4|apply zk5|apply zk6|apply zk7|apply zk8|apply zk9) <;> intro hc)
   |(refine callP0 rfl ?_)
   |(refine callD0 rfl ?_)
   | fail)
  refine ⟨s + 1,hlt,by omega,?_⟩
  refine wk_i ?_ ?_ <;> simp only [zw,Nat.reduceEqDiff,Nat.reduceBEq,Nat.reduceLT,Nat.reduceLeDiff,reduceIte,reduceCtorEq]
 ·obtain rfl : s = bl.length := by omega
  have h2 := lt_f hge
  have h3 := List.take_length (l := bl)
  repeat' (first
   | (simp -implicitDefEqProofs only [*,zr,Nat.reduceAdd,Nat.reduceSub,Nat.reduceMul,Nat.reduceLT,Nat.reduceLeDiff,Nat.reduceEqDiff,Nat.reduceBEq,reduceIte,reduceCtorEq,Int.reduceLE,Int.reduceLT,Int.reduceToNat,Int.reduceEq,Int.reduceNe])
   | ((first|apply zk0|apply zk1|apply zk2|apply zk3|apply zk4|apply zk5|apply zk6|apply zk7|apply zk8|apply zk9) <;> intro hc)
   |(refine callP0 rfl ?_)
   |(refine callD0 rfl ?_)
   | fail)
  exact ret_v
def SBound (c : Cache) : Prop := CBound c ∧ (∀ b ∈ c.2.2.1,(b.1.size : Int) ≤ 9223372036854775807) ∧ ∀ e ∈ c.2.2.2,(e.1.size : Int) ≤ 9223372036854775807 ∧ ∀ d ∈ e.2.1,(d.size : Int) ≤ 9223372036854775807
set_option maxHeartbeats 1000000 in
theorem CheckCacheR_f (c : Cache) (hb : SBound c) : FRet Tryz.prog 17 [aCache c] [.c (.v (.int .i64 (ckCache c)))] := by
 obtain ⟨room,lease,bl,en⟩ := c
 obtain ⟨⟨hb1,hb2,hb3⟩,hb4,hb5⟩ := hb
 simp only at hb1 hb2 hb3 hb4 hb5
 refine FCall.of_ax low_ref7_CheckCache ?_
 dsimp only [l_ref7_CheckCache,aCache]
 unfold ckCache
 dsimp only
 refine srun_sound 300 _ _ _ _ ?_
 repeat' (first
  | (simp -implicitDefEqProofs only [*,frEntries,frBlobs,frStrs,zr,Nat.reduceAdd,Nat.reduceSub,Nat.reduceMul,Nat.reduceLT,Nat.reduceLeDiff,Nat.reduceEqDiff,Nat.reduceBEq,reduceIte,reduceCtorEq,Int.reduceLE,Int.reduceLT,Int.reduceToNat,Int.reduceEq,Int.reduceNe])
  | ((first|apply zk0|apply zk1|apply zk2|apply zk3|apply zk4|apply zk5|apply zk6|apply zk7|apply zk8|apply zk9) <;> intro hc)
  |(refine callP0 rfl ?_)
  |(refine callD0 rfl ?_)
  |(refine cP (withinR_f _ _ _) ?_)
  |(refine cD (withinR_f _ _ _) ?_)
  |(refine cF (withinR_f _ _ _) ?_)
  | fail)
 all_goals try (refine ret_ve ?_;simp only [*,Int.reduceEq,Int.reduceNe,if_true,if_false,ne_eq,not_true_eq_false,not_false_eq_true,reduceIte,Bool.false_eq_true,Bool.true_and,Bool.and_true,Bool.false_and,Bool.and_false,Bool.not_true,Bool.not_false,Bool.true_or,Bool.or_true,Bool.false_or,Bool.or_false,decide_true,decide_false,reduceCtorEq];done)
 ·refine ret_ve ?_
  rw [ckBlobs,if_pos (of_decide_eq_true hc)];rfl
 have h3000 := of_decide_eq_false hc
 refine ax_loopU (S := Nat) 128 [1] [1] (fun s => [(3,.f (.int .i64 s))]) (fun s => []) (fun s => s ≤ bl.length ∧ ∀ m,m < s → blobErr bl m = 0) (fun s => bl.length - s) (0) [] ?_ ?_ fun s hs => ?_
 ·exact ⟨Nat.zero_le _,fe_0⟩
 ·refine wk_i ?_ ?_ <;> simp only [zw,Nat.reduceEqDiff,Nat.reduceBEq,Nat.reduceLT,Nat.reduceLeDiff,reduceIte,reduceCtorEq]
 obtain ⟨hi,hall⟩ := hs
 refine srun_sound 300 _ _ _ _ ?_
 rcases Nat.lt_or_ge s bl.length with hlt | hge
 ·obtain ⟨x,hx⟩ := get_some hlt
  have h4 := inc64 hlt hb1
  have hE := blobErr_of hx
  have hsx := hb4 x (List.mem_of_getElem? hx)
  obtain ⟨xd,xs,xu,xn,xp⟩ := x
  simp only [leS] at hE
  have h2 := lt_t hlt
  have h6 := dec64' hlt hb1
  obtain ⟨y,hy,hf⟩ := prev_of hx
  rw [hf] at hE
  clear hf
  obtain ⟨yd,ys,yu,yn,yp⟩ := y
  simp only at hE
  repeat' (first
   | (simp -implicitDefEqProofs only [*,List.getElem?_map,Option.map_some,fBlob,zr,Nat.reduceAdd,Nat.reduceSub,Nat.reduceMul,Nat.reduceLT,Nat.reduceLeDiff,Nat.reduceEqDiff,Nat.reduceBEq,reduceIte,reduceCtorEq,Int.reduceLE,Int.reduceLT,Int.reduceToNat,Int.reduceEq,Int.reduceNe])
   | ((first|apply zk0|apply zk1|apply zk2|apply zk3|apply zk4|apply zk5|apply zk6|apply zk7|apply zk8|apply zk9) <;> intro hc)
   |(refine callP0 rfl ?_)
   |(refine callD0 rfl ?_)
   |(refine cP (isDigestR_f _ hsx) ?_)
   |(refine cD (isDigestR_f _ hsx) ?_)
   |(refine cF (isDigestR_f _ hsx) ?_)
   |(refine cP (withinR_f _ _ _) ?_)
   |(refine cD (withinR_f _ _ _) ?_)
   |(refine cF (withinR_f _ _ _) ?_)
   | fail)
  all_goals simp only [*,if_true,if_false,Bool.false_eq_true,Bool.true_and,Bool.and_true,Bool.false_and,Bool.and_false] at hE
  all_goals first
   | (have hk : ckBlobs bl room ≠ 0 ∧ ckBlobs bl room = blobErr bl s := by
       rw [ckBlobs,if_neg h3000,fe_hit hall hlt (by rw [hE];decide),if_pos (by rw [hE];decide),hE];exact ⟨by decide,rfl⟩
      refine ret_ve ?_
      rw [if_pos hk.1,hk.2,hE])
   |(refine ⟨s + 1,⟨hlt,fe_step hall hE⟩,by omega,?_⟩;refine wk_i ?_ ?_ <;> simp only [zw,Nat.reduceEqDiff,Nat.reduceBEq,Nat.reduceLT,Nat.reduceLeDiff,reduceIte,reduceCtorEq])
 obtain rfl : s = bl.length := by omega
 have hws : wsum bl = sumSz bl := wsum_eq (by omega) (by have := take_range (Nat.le_refl _) hall;rwa [List.take_length] at this)
 have hck : ckBlobs bl room = if room < sumSz bl then 16 else 0 := by rw [ckBlobs,if_neg h3000,fe_none hall];rfl
 rw [← hws] at hck
 have h2 := lt_f hge
 clear hall hws h3000
 cases hroom : decide (room < wsum bl)
 case true =>
  rw [if_pos (of_decide_eq_true hroom)] at hck
  repeat' (first
   | (simp -implicitDefEqProofs only [*,zr,Nat.reduceAdd,Nat.reduceSub,Nat.reduceMul,Nat.reduceLT,Nat.reduceLeDiff,Nat.reduceEqDiff,Nat.reduceBEq,reduceIte,reduceCtorEq,Int.reduceLE,Int.reduceLT,Int.reduceToNat,Int.reduceEq,Int.reduceNe])
   | ((first|apply zk0|apply zk1|apply zk2|apply zk3|apply zk4|apply zk5|apply zk6|apply zk7|apply zk8|apply zk9) <;> intro hc)
   |(refine callP0 rfl ?_)
   |(refine callD0 rfl ?_)
   |(refine cP (bytesOf_f _ hb1) ?_)
   |(refine cD (bytesOf_f _ hb1) ?_)
   |(refine cF (bytesOf_f _ hb1) ?_)
   | fail)
  exact ret_v
 rw [if_neg (of_decide_eq_false hroom)] at hck
 cases hen : decide ((1000 : Int) < en.length)
 case true =>
  have hen' := of_decide_eq_true hen
  repeat' (first
   | (simp -implicitDefEqProofs only [*,zr,Nat.reduceAdd,Nat.reduceSub,Nat.reduceMul,Nat.reduceLT,Nat.reduceLeDiff,Nat.reduceEqDiff,Nat.reduceBEq,reduceIte,reduceCtorEq,Int.reduceLE,Int.reduceLT,Int.reduceToNat,Int.reduceEq,Int.reduceNe])
   | ((first|apply zk0|apply zk1|apply zk2|apply zk3|apply zk4|apply zk5|apply zk6|apply zk7|apply zk8|apply zk9) <;> intro hc)
   |(refine callP0 rfl ?_)
   |(refine callD0 rfl ?_)
   |(refine cP (bytesOf_f _ hb1) ?_)
   |(refine cD (bytesOf_f _ hb1) ?_)
   |(refine cF (bytesOf_f _ hb1) ?_)
   | fail)
  exact ret_v
 have hR : (if ckBlobs bl room ≠ 0 then ckBlobs bl room else if (1000 : Int) < en.length then 2 else firstErr (entErr en) 0 en.length) = firstErr (entErr en) 0 en.length := by
  rw [hck,if_neg (by decide),if_neg (of_decide_eq_false hen)]
 clear hck
 repeat' (first
  | (simp -implicitDefEqProofs only [*,zr,Nat.reduceAdd,Nat.reduceSub,Nat.reduceMul,Nat.reduceLT,Nat.reduceLeDiff,Nat.reduceEqDiff,Nat.reduceBEq,reduceIte,reduceCtorEq,Int.reduceLE,Int.reduceLT,Int.reduceToNat,Int.reduceEq,Int.reduceNe])
  | ((first|apply zk0|apply zk1|apply zk2|apply zk3|apply zk4|apply zk5|apply zk6|apply zk7|apply zk8|apply zk9) <;> intro hc)
  |(refine callP0 rfl ?_)
  |(refine callD0 rfl ?_)
  |(refine cP (bytesOf_f _ hb1) ?_)
  |(refine cD (bytesOf_f _ hb1) ?_)
  |(refine cF (bytesOf_f _ hb1) ?_)
  | fail)
 refine ax_loopU (S := Nat) 128 [1] [1] (fun s => [(5,.f (.int .i64 s))]) (fun s => []) (fun s => s ≤ en.length ∧ ∀ m,m < s → entErr en m = 0) (fun s => en.length - s) (0) [] ?_ ?_ fun s hs => ?_
 ·exact ⟨Nat.zero_le _,fe_0⟩
 ·refine wk_i ?_ ?_ <;> simp only [zw,Nat.reduceEqDiff,Nat.reduceBEq,Nat.reduceLT,Nat.reduceLeDiff,reduceIte,reduceCtorEq]
 obtain ⟨hi,hall⟩ := hs
 refine srun_sound 300 _ _ _ _ ?_
 rcases Nat.lt_or_ge s en.length with hlt | hge
 ·obtain ⟨x,hx⟩ := get_some hlt
  have h4 := inc64 hlt hb2
  have hE := entErr_of hx
  have hxl := hb3 x (List.mem_of_getElem? hx)
  have hxs := hb5 x (List.mem_of_getElem? hx)
  obtain ⟨xk,xr,xu⟩ := x
  simp only [leS] at hE hxl hxs
  have h2 := lt_t hlt
  have h6 := dec64' hlt hb2
  obtain ⟨y,hy,hf⟩ := prev_of hx
  rw [hf] at hE
  clear hf
  obtain ⟨yk,yr,yu⟩ := y
  simp only at hE
  unfold ckDigsM at hE
  repeat' (first
   | (simp -implicitDefEqProofs only [*,List.getElem?_map,Option.map_some,fEntry,frStrs,zr,Nat.reduceAdd,Nat.reduceSub,Nat.reduceMul,Nat.reduceLT,Nat.reduceLeDiff,Nat.reduceEqDiff,Nat.reduceBEq,reduceIte,reduceCtorEq,Int.reduceLE,Int.reduceLT,Int.reduceToNat,Int.reduceEq,Int.reduceNe])
   | ((first|apply zk0|apply zk1|apply zk2|apply zk3|apply zk4|apply zk5|apply zk6|apply zk7|apply zk8|apply zk9) <;> intro hc)
   |(refine callP0 rfl ?_)
   |(refine callD0 rfl ?_)
   |(refine cP (isDigestR_f _ hxs.1) ?_)
   |(refine cD (isDigestR_f _ hxs.1) ?_)
   |(refine cF (isDigestR_f _ hxs.1) ?_)
   |(refine cP (withinR_f _ _ _) ?_)
   |(refine cD (withinR_f _ _ _) ?_)
   |(refine cF (withinR_f _ _ _) ?_)
   |(refine cP (rising_f _ hxl hxs.2) ?_)
   |(refine cD (rising_f _ hxl hxs.2) ?_)
   |(refine cF (rising_f _ hxl hxs.2) ?_)
   | fail)
  all_goals try simp only [decide_eq_true_eq,decide_eq_false_iff_not] at *
  all_goals simp only [*,Int.reduceEq,Int.reduceNe,if_true,if_false,ne_eq,not_true_eq_false,not_false_eq_true,reduceIte,Bool.false_eq_true,Bool.true_and,Bool.and_true,Bool.false_and,Bool.and_false,Bool.not_true,Bool.not_false,Bool.true_or,Bool.or_true,Bool.false_or,Bool.or_false,decide_true,decide_false,reduceCtorEq] at hE
  all_goals first
   | exact ret_ve (by rw [fe_hit hall hlt (by rw [hE];decide),hE])
   | exact ret_ve (by rw [fe_hit hall hlt (by rw [hE];assumption),hE])
   |(refine ⟨s + 1,⟨hlt,fe_step hall hE⟩,by omega,?_⟩;refine wk_i ?_ ?_ <;> simp only [zw,Nat.reduceEqDiff,Nat.reduceBEq,Nat.reduceLT,Nat.reduceLeDiff,reduceIte,reduceCtorEq])
 ·obtain rfl : s = en.length := by omega
  have h0 := fe_none hall
  have h2 := lt_f hge
  rw [h0] at hR
  repeat' (first
   | (simp -implicitDefEqProofs only [*,zr,Nat.reduceAdd,Nat.reduceSub,Nat.reduceMul,Nat.reduceLT,Nat.reduceLeDiff,Nat.reduceEqDiff,Nat.reduceBEq,reduceIte,reduceCtorEq,Int.reduceLE,Int.reduceLT,Int.reduceToNat,Int.reduceEq,Int.reduceNe])
   | ((first|apply zk0|apply zk1|apply zk2|apply zk3|apply zk4|apply zk5|apply zk6|apply zk7|apply zk8|apply zk9) <;> intro hc)
   |(refine callP0 rfl ?_)
   |(refine callD0 rfl ?_)
   | fail)
  exact ret_v
instance decBlob : DecidableEq Blob := inferInstanceAs (DecidableEq (ByteArray × Int × Int × Int × Int))
instance decEntry : DecidableEq Entry := inferInstanceAs (DecidableEq (ByteArray × List ByteArray × Int))
instance decCache : DecidableEq Cache := inferInstanceAs (DecidableEq (Int × Int × List Blob × List Entry))
theorem sameList_f (l m : List ByteArray) (hl : (l.length : Int) ≤ 9223372036854775807) : FRet Tryz.prog 21 [.f (frStrs l),.f (frStrs m)] [.c (.v (.bool (decide (l = m))))] := by
 refine FCall.of_ax low_ref7_sameList ?_
 dsimp only [l_ref7_sameList,frStrs]
 refine srun_sound 300 _ _ _ _ ?_
 cases hlm : decide (l.length = m.length)
 case false =>
  have hq : decide (l = m) = false := by
   rw [decide_eq_false_iff_not];intro e;subst e;simp at hlm
  have hc' : decide ((l.length : Int) = m.length) = false := by have := of_decide_eq_false hlm;rw [decide_eq_false_iff_not];omega
  rw [hq]
  repeat' (first
   | (simp -implicitDefEqProofs only [*,zr,Nat.reduceAdd,Nat.reduceSub,Nat.reduceMul,Nat.reduceLT,Nat.reduceLeDiff,Nat.reduceEqDiff,Nat.reduceBEq,reduceIte,reduceCtorEq,Int.reduceLE,Int.reduceLT,Int.reduceToNat,Int.reduceEq,Int.reduceNe])
   | ((first|apply zk0|apply zk1|apply zk2|apply zk3|apply zk4|apply zk5|apply zk6|apply zk7|apply zk8|apply zk9) <;> intro hc)
   |(refine callP0 rfl ?_)
   |(refine callD0 rfl ?_)
   | fail)
  all_goals exact ret_v
 have hlm' : l.length = m.length := of_decide_eq_true hlm
 have hc' : decide ((l.length : Int) = m.length) = true := by rw [decide_eq_true_eq];omega
 have hH := hide hlm'
 clear hlm hlm'
 repeat' (first
  | (simp -implicitDefEqProofs only [*,zr,Nat.reduceAdd,Nat.reduceSub,Nat.reduceMul,Nat.reduceLT,Nat.reduceLeDiff,Nat.reduceEqDiff,Nat.reduceBEq,reduceIte,reduceCtorEq,Int.reduceLE,Int.reduceLT,Int.reduceToNat,Int.reduceEq,Int.reduceNe])
  | ((first|apply zk0|apply zk1|apply zk2|apply zk3|apply zk4|apply zk5|apply zk6|apply zk7|apply zk8|apply zk9) <;> intro hc)
  |(refine callP0 rfl ?_)
  |(refine callD0 rfl ?_)
  | fail)
 refine ax_loopU (S := Nat) 26 [0,1] [] (fun s => [(5,.f (.int .i64 s))]) (fun s => []) (fun s => s ≤ l.length ∧ ∀ k,k < s → l[k]? = m[k]?) (fun s => l.length - s) (0) [] ?_ ?_ fun s hs => ?_
 ·exact ⟨Nat.zero_le _,fun k h => absurd h (by omega)⟩
 ·refine wk_i ?_ ?_ <;> simp only [zw,Nat.reduceEqDiff,Nat.reduceBEq,Nat.reduceLT,Nat.reduceLeDiff,reduceIte,reduceCtorEq]
 obtain ⟨hi,hall⟩ := hs
 refine srun_sound 300 _ _ _ _ ?_
 have hA := hide hall
 clear hall
 rcases Nat.lt_or_ge s l.length with hlt | hge
 ·obtain ⟨x,hx⟩ := get_some hlt
  obtain ⟨y,hy⟩ := get_some (l := m) (i := s) (by have := hH.out;omega)
  have h4 := inc64 hlt hl
  have h2 := lt_t hlt
  cases hxy : decide (x = y)
  ·have hq : decide (l = m) = false := by
    rw [decide_eq_false_iff_not];intro e;subst e;rw [hx] at hy;exact of_decide_eq_false hxy (Option.some.inj hy)
   rw [hq]
   repeat' (first
    | (simp -implicitDefEqProofs only [*,List.getElem?_map,Option.map_some,zr,Nat.reduceAdd,Nat.reduceSub,Nat.reduceMul,Nat.reduceLT,Nat.reduceLeDiff,Nat.reduceEqDiff,Nat.reduceBEq,reduceIte,reduceCtorEq,Int.reduceLE,Int.reduceLT,Int.reduceToNat,Int.reduceEq,Int.reduceNe])
    | ((first|apply zk0|apply zk1|apply zk2|apply zk3|apply zk4|apply zk5|apply zk6|apply zk7|apply zk8|apply zk9) <;> intro hc)
    |(refine callP0 rfl ?_)
    |(refine callD0 rfl ?_)
    | fail)
   all_goals exact ret_v
  ·have e : x = y := of_decide_eq_true hxy
   subst e
   repeat' (first
    | (simp -implicitDefEqProofs only [*,List.getElem?_map,Option.map_some,zr,Nat.reduceAdd,Nat.reduceSub,Nat.reduceMul,Nat.reduceLT,Nat.reduceLeDiff,Nat.reduceEqDiff,Nat.reduceBEq,reduceIte,reduceCtorEq,Int.reduceLE,Int.reduceLT,Int.reduceToNat,Int.reduceEq,Int.reduceNe])
    | ((first|apply zk0|apply zk1|apply zk2|apply zk3|apply zk4|apply zk5|apply zk6|apply zk7|apply zk8|apply zk9) <;> intro hc)
    |(refine callP0 rfl ?_)
    |(refine callD0 rfl ?_)
    | fail)
   refine ⟨s + 1,⟨hlt,fun k hk => ?_⟩,by omega,?_⟩
   ·rcases Nat.lt_succ_iff_lt_or_eq.1 hk with h1 | rfl
    ·exact hA.out k h1
    ·rw [hx,hy]
   ·refine wk_i ?_ ?_ <;> simp only [zw,Nat.reduceEqDiff,Nat.reduceBEq,Nat.reduceLT,Nat.reduceLeDiff,reduceIte,reduceCtorEq]
 ·obtain rfl : s = l.length := by omega
  have h2 := lt_f hge
  have hq : decide (l = m) = true := by
   rw [decide_eq_true_eq]
   refine List.ext_getElem? fun k => ?_
   rcases Nat.lt_or_ge k l.length with h1 | h1
   ·exact hA.out k h1
   ·rw [List.getElem?_eq_none h1,List.getElem?_eq_none (by have := hH.out;omega)]
  rw [hq]
  repeat' (first
   | (simp -implicitDefEqProofs only [*,zr,Nat.reduceAdd,Nat.reduceSub,Nat.reduceMul,Nat.reduceLT,Nat.reduceLeDiff,Nat.reduceEqDiff,Nat.reduceBEq,reduceIte,reduceCtorEq,Int.reduceLE,Int.reduceLT,Int.reduceToNat,Int.reduceEq,Int.reduceNe])
   | ((first|apply zk0|apply zk1|apply zk2|apply zk3|apply zk4|apply zk5|apply zk6|apply zk7|apply zk8|apply zk9) <;> intro hc)
   |(refine callP0 rfl ?_)
   |(refine callD0 rfl ?_)
   | fail)
  exact ret_v

theorem ext_of {α : Type} {l m : List α} (h : l.length = m.length) (ha : ∀ k,k < l.length → l[k]? = m[k]?) : l = m := List.ext_getElem? fun k => by
 rcases Nat.lt_or_ge k l.length with h1 | h1
 ·exact ha k h1
 ·rw [List.getElem?_eq_none h1,List.getElem?_eq_none (by omega)]
set_option maxHeartbeats 2000000 in
theorem Same_f (a b : Cache) (ha : SBound a) : FRet Tryz.prog 8 [aCache a,aCache b] [.c (.v (.bool (decide (a = b))))] := by
 obtain ⟨ar,al,ab,ae⟩ := a
 obtain ⟨br,bl,bb,be⟩ := b
 obtain ⟨⟨hb1,hb2,hb3⟩,_,_⟩ := ha
 simp only at hb1 hb2 hb3
 refine FCall.of_ax low_ref7_Same ?_
 dsimp only [l_ref7_Same,aCache]
 refine srun_sound 300 _ _ _ _ ?_
 have no : ∀ p : Prop,[Decidable p] → (((ar,al,ab,ae) : Cache) = (br,bl,bb,be) → p) → decide p = false → decide (((ar,al,ab,ae) : Cache) = (br,bl,bb,be)) = false := fun p _ hp h => by
  rw [decide_eq_false_iff_not];intro e;exact of_decide_eq_false h (hp e)
 cases h1 : decide (ar = br)
 case false =>
  rw [no _ (fun e => by cases e;rfl) h1]
  clear no
  repeat' (first
   | (simp -implicitDefEqProofs only [*,frBlobs,frEntries,zr,Nat.reduceAdd,Nat.reduceSub,Nat.reduceMul,Nat.reduceLT,Nat.reduceLeDiff,Nat.reduceEqDiff,Nat.reduceBEq,reduceIte,reduceCtorEq,Int.reduceLE,Int.reduceLT,Int.reduceToNat,Int.reduceEq,Int.reduceNe])
   | ((first|apply zk0|apply zk1|apply zk2|apply zk3|apply zk4|apply zk5|apply zk6|apply zk7|apply zk8|apply zk9) <;> intro hc)
   |(refine callP0 rfl ?_)
   |(refine callD0 rfl ?_)
   | fail)
  all_goals exact ret_v
 cases h2 : decide (al = bl)
 case false =>
  rw [no _ (fun e => by cases e;rfl) h2]
  clear no
  repeat' (first
   | (simp -implicitDefEqProofs only [*,frBlobs,frEntries,zr,Nat.reduceAdd,Nat.reduceSub,Nat.reduceMul,Nat.reduceLT,Nat.reduceLeDiff,Nat.reduceEqDiff,Nat.reduceBEq,reduceIte,reduceCtorEq,Int.reduceLE,Int.reduceLT,Int.reduceToNat,Int.reduceEq,Int.reduceNe])
   | ((first|apply zk0|apply zk1|apply zk2|apply zk3|apply zk4|apply zk5|apply zk6|apply zk7|apply zk8|apply zk9) <;> intro hc)
   |(refine callP0 rfl ?_)
   |(refine callD0 rfl ?_)
   | fail)
  all_goals exact ret_v
 cases h3 : decide ((ab.length : Int) = bb.length)
 case false =>
  rw [no _ (fun e => by cases e;rfl) h3]
  clear no
  repeat' (first
   | (simp -implicitDefEqProofs only [*,frBlobs,frEntries,zr,Nat.reduceAdd,Nat.reduceSub,Nat.reduceMul,Nat.reduceLT,Nat.reduceLeDiff,Nat.reduceEqDiff,Nat.reduceBEq,reduceIte,reduceCtorEq,Int.reduceLE,Int.reduceLT,Int.reduceToNat,Int.reduceEq,Int.reduceNe])
   | ((first|apply zk0|apply zk1|apply zk2|apply zk3|apply zk4|apply zk5|apply zk6|apply zk7|apply zk8|apply zk9) <;> intro hc)
   |(refine callP0 rfl ?_)
   |(refine callD0 rfl ?_)
   | fail)
  all_goals exact ret_v
 cases h4 : decide ((ae.length : Int) = be.length)
 case false =>
  rw [no _ (fun e => by cases e;rfl) h4]
  clear no
  repeat' (first
   | (simp -implicitDefEqProofs only [*,frBlobs,frEntries,zr,Nat.reduceAdd,Nat.reduceSub,Nat.reduceMul,Nat.reduceLT,Nat.reduceLeDiff,Nat.reduceEqDiff,Nat.reduceBEq,reduceIte,reduceCtorEq,Int.reduceLE,Int.reduceLT,Int.reduceToNat,Int.reduceEq,Int.reduceNe])
   | ((first|apply zk0|apply zk1|apply zk2|apply zk3|apply zk4|apply zk5|apply zk6|apply zk7|apply zk8|apply zk9) <;> intro hc)
   |(refine callP0 rfl ?_)
   |(refine callD0 rfl ?_)
   | fail)
  all_goals exact ret_v
 replace no := hide no
 repeat' (first
  | (simp -implicitDefEqProofs only [*,frBlobs,frEntries,zr,Nat.reduceAdd,Nat.reduceSub,Nat.reduceMul,Nat.reduceLT,Nat.reduceLeDiff,Nat.reduceEqDiff,Nat.reduceBEq,reduceIte,reduceCtorEq,Int.reduceLE,Int.reduceLT,Int.reduceToNat,Int.reduceEq,Int.reduceNe])
  | ((first|apply zk0|apply zk1|apply zk2|apply zk3|apply zk4|apply zk5|apply zk6|apply zk7|apply zk8|apply zk9) <;> intro hc)
  |(refine callP0 rfl ?_)
  |(refine callD0 rfl ?_)
  | fail)
 have e1 := of_decide_eq_true h1
 have e2 := of_decide_eq_true h2
 have e3 : ab.length = bb.length := by have := of_decide_eq_true h3;omega
 have e4 : ae.length = be.length := by have := of_decide_eq_true h4;omega
 subst e1 e2
 clear h1 h2 h3 h4
 replace e3 := hide e3
 replace e4 := hide e4
 refine ax_loopU (S := Nat) 106 [2,3] [2,3] (fun s => [(5,.f (.int .i64 s))]) (fun s => []) (fun s => s ≤ ab.length ∧ ∀ k,k < s → ab[k]? = bb[k]?) (fun s => ab.length - s) (0) [] ?_ ?_ fun s hs => ?_
 ·exact ⟨Nat.zero_le _,fun k h => absurd h (by omega)⟩
 ·refine wk_i ?_ ?_ <;> simp only [zw,Nat.reduceEqDiff,Nat.reduceBEq,Nat.reduceLT,Nat.reduceLeDiff,reduceIte,reduceCtorEq]
 obtain ⟨hi,hall⟩ := hs
 refine srun_sound 300 _ _ _ _ ?_
 have hA := hide hall
 clear hall
 rcases Nat.lt_or_ge s ab.length with hlt | hge
 ·obtain ⟨x,hx⟩ := get_some hlt
  obtain ⟨y,hy⟩ := get_some (l := bb) (i := s) (by have := e3.out;omega)
  have h4 := inc64 hlt hb1
  have h2 := lt_t hlt
  cases hxy : decide (x = y)
  ·have hq := no.out (x = y) (fun e => by cases e;rw [hx] at hy;exact Option.some.inj hy) hxy
   rw [hq]
   obtain ⟨x1,x2,x3,x4,x5⟩ := x
   obtain ⟨y1,y2,y3,y4,y5⟩ := y
   have hE : (decide (x1 = y1) && (decide (x2 = y2) && (decide (x3 = y3) && (decide (x4 = y4) && decide (x5 = y5))))) = false := by
    rw [← hxy];simp [Bool.decide_and]
   clear hxy hq
   repeat' (first
    | (simp -implicitDefEqProofs only [*,List.getElem?_map,Option.map_some,fBlob,zr,Nat.reduceAdd,Nat.reduceSub,Nat.reduceMul,Nat.reduceLT,Nat.reduceLeDiff,Nat.reduceEqDiff,Nat.reduceBEq,reduceIte,reduceCtorEq,Int.reduceLE,Int.reduceLT,Int.reduceToNat,Int.reduceEq,Int.reduceNe])
    | ((first|apply zk0|apply zk1|apply zk2|apply zk3|apply zk4|apply zk5|apply zk6|apply zk7|apply zk8|apply zk9) <;> intro hc)
    |(refine callP0 rfl ?_)
    |(refine callD0 rfl ?_)
    | fail)
   all_goals exact ret_v
  ·have e : x = y := of_decide_eq_true hxy
   subst e
   obtain ⟨x1,x2,x3,x4,x5⟩ := x
   clear hxy
   repeat' (first
    | (simp -implicitDefEqProofs only [*,List.getElem?_map,Option.map_some,fBlob,zr,Nat.reduceAdd,Nat.reduceSub,Nat.reduceMul,Nat.reduceLT,Nat.reduceLeDiff,Nat.reduceEqDiff,Nat.reduceBEq,reduceIte,reduceCtorEq,Int.reduceLE,Int.reduceLT,Int.reduceToNat,Int.reduceEq,Int.reduceNe])
    | ((first|apply zk0|apply zk1|apply zk2|apply zk3|apply zk4|apply zk5|apply zk6|apply zk7|apply zk8|apply zk9) <;> intro hc)
    |(refine callP0 rfl ?_)
    |(refine callD0 rfl ?_)
    | fail)
   refine ⟨s + 1,⟨hlt,fun k hk => ?_⟩,by omega,?_⟩
   ·rcases Nat.lt_succ_iff_lt_or_eq.1 hk with h1 | rfl
    ·exact hA.out k h1
    ·rw [hx,hy]
   ·refine wk_i ?_ ?_ <;> simp only [zw,Nat.reduceEqDiff,Nat.reduceBEq,Nat.reduceLT,Nat.reduceLeDiff,reduceIte,reduceCtorEq]
 obtain rfl : s = ab.length := by omega
 have e5 := hide (ext_of e3.out hA.out)
 have h2 := lt_f hge
 clear hA
 repeat' (first
  | (simp -implicitDefEqProofs only [*,zr,Nat.reduceAdd,Nat.reduceSub,Nat.reduceMul,Nat.reduceLT,Nat.reduceLeDiff,Nat.reduceEqDiff,Nat.reduceBEq,reduceIte,reduceCtorEq,Int.reduceLE,Int.reduceLT,Int.reduceToNat,Int.reduceEq,Int.reduceNe])
  | ((first|apply zk0|apply zk1|apply zk2|apply zk3|apply zk4|apply zk5|apply zk6|apply zk7|apply zk8|apply zk9) <;> intro hc)
  |(refine callP0 rfl ?_)
  |(refine callD0 rfl ?_)
  | fail)
 refine ax_loopU (S := Nat) 106 [2,3] [2,3] (fun s => [(6,.f (.int .i64 s))]) (fun s => []) (fun s => s ≤ ae.length ∧ ∀ k,k < s → ae[k]? = be[k]?) (fun s => ae.length - s) (0) [] ?_ ?_ fun s hs => ?_
 ·exact ⟨Nat.zero_le _,fun k h => absurd h (by omega)⟩
 ·refine wk_i ?_ ?_ <;> simp only [zw,Nat.reduceEqDiff,Nat.reduceBEq,Nat.reduceLT,Nat.reduceLeDiff,reduceIte,reduceCtorEq]
 obtain ⟨hi,hall⟩ := hs
 refine srun_sound 300 _ _ _ _ ?_
 have hA := hide hall
 clear hall h2
 rcases Nat.lt_or_ge s ae.length with hlt | hge
 ·obtain ⟨x,hx⟩ := get_some hlt
  obtain ⟨y,hy⟩ := get_some (l := be) (i := s) (by have := e4.out;omega)
  have h4 := inc64 hlt hb2
  have h2 := lt_t hlt
  have hrl := hb3 x (List.mem_of_getElem? hx)
  cases hxy : decide (x = y)
  ·have hq := no.out (x = y) (fun e => by cases e;rw [hx] at hy;exact Option.some.inj hy) hxy
   rw [hq]
   obtain ⟨x1,x2,x3⟩ := x
   obtain ⟨y1,y2,y3⟩ := y
   have hE : (decide (x1 = y1) && (decide (x2 = y2) && decide (x3 = y3))) = false := by
    rw [← hxy];simp [Bool.decide_and]
   clear hxy hq
   cases k1 : decide (x1 = y1) <;> cases k2 : decide (x2 = y2) <;> cases k3 : decide (x3 = y3) <;> (first|(rw [k1,k2,k3] at hE;cases hE;done) | skip)
   all_goals clear hE
   repeat' (first
    | (simp -implicitDefEqProofs only [*,List.getElem?_map,Option.map_some,fEntry,zr,Nat.reduceAdd,Nat.reduceSub,Nat.reduceMul,Nat.reduceLT,Nat.reduceLeDiff,Nat.reduceEqDiff,Nat.reduceBEq,reduceIte,reduceCtorEq,Int.reduceLE,Int.reduceLT,Int.reduceToNat,Int.reduceEq,Int.reduceNe])
    | ((first|apply zk0|apply zk1|apply zk2|apply zk3|apply zk4|apply zk5|apply zk6|apply zk7|apply zk8|apply zk9) <;> intro hc)
    |(refine callP0 rfl ?_)
    |(refine callD0 rfl ?_)
    |(refine cP (sameList_f x2 y2 hrl) ?_)
    |(refine cD (sameList_f x2 y2 hrl) ?_)
    |(refine cF (sameList_f x2 y2 hrl) ?_)
    | fail)
   all_goals exact ret_v
  ·have e : x = y := of_decide_eq_true hxy
   subst e
   obtain ⟨x1,x2,x3⟩ := x
   clear hxy
   repeat' (first
    | (simp -implicitDefEqProofs only [*,List.getElem?_map,Option.map_some,fEntry,zr,Nat.reduceAdd,Nat.reduceSub,Nat.reduceMul,Nat.reduceLT,Nat.reduceLeDiff,Nat.reduceEqDiff,Nat.reduceBEq,reduceIte,reduceCtorEq,Int.reduceLE,Int.reduceLT,Int.reduceToNat,Int.reduceEq,Int.reduceNe])
    | ((first|apply zk0|apply zk1|apply zk2|apply zk3|apply zk4|apply zk5|apply zk6|apply zk7|apply zk8|apply zk9) <;> intro hc)
    |(refine callP0 rfl ?_)
    |(refine callD0 rfl ?_)
    |(refine cP (sameList_f x2 x2 hrl) ?_)
    |(refine cD (sameList_f x2 x2 hrl) ?_)
    |(refine cF (sameList_f x2 x2 hrl) ?_)
    | fail)
   refine ⟨s + 1,⟨hlt,fun k hk => ?_⟩,by omega,?_⟩
   ·rcases Nat.lt_succ_iff_lt_or_eq.1 hk with h1 | rfl
    ·exact hA.out k h1
    ·rw [hx,hy]
   ·refine wk_i ?_ ?_ <;> simp only [zw,Nat.reduceEqDiff,Nat.reduceBEq,Nat.reduceLT,Nat.reduceLeDiff,reduceIte,reduceCtorEq]
 ·obtain rfl : s = ae.length := by omega
  have h2 := lt_f hge
  have e6 := ext_of e4.out hA.out
  have hq : decide (((ar,al,ab,ae) : Cache) = (ar,al,bb,be)) = true := by rw [e5.out,e6];simp
  rw [hq]
  clear hq e6
  repeat' (first
   | (simp -implicitDefEqProofs only [*,zr,Nat.reduceAdd,Nat.reduceSub,Nat.reduceMul,Nat.reduceLT,Nat.reduceLeDiff,Nat.reduceEqDiff,Nat.reduceBEq,reduceIte,reduceCtorEq,Int.reduceLE,Int.reduceLT,Int.reduceToNat,Int.reduceEq,Int.reduceNe])
   | ((first|apply zk0|apply zk1|apply zk2|apply zk3|apply zk4|apply zk5|apply zk6|apply zk7|apply zk8|apply zk9) <;> intro hc)
   |(refine callP0 rfl ?_)
   |(refine callD0 rfl ?_)
   | fail)
  exact ret_v
end Go.Proofs.YthniagdphhcnkaaGreatDoor
