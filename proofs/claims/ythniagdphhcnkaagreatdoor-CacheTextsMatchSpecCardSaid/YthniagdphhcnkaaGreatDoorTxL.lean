/-
  cache.line. No statement of the seat is proved here; no conditions.
-/
import Derived.Test.YthniagdphhcnkaaGreatDoorTxC
import Derived.Test.YthniagdphhcnkaaGreatDoorCap
namespace Go.Proofs.YthniagdphhcnkaaGreatDoor
open Go.RowKit Go.Shelf
set_option linter.unusedVariables false
set_option linter.unusedSimpArgs false
set_option maxRecDepth 100000

theorem endL {H : Heap} {i1 v1 i2 v2 n m : Nat} {room lease : Int} {b : Bool} {xs ys : List FV} {X : Nat × Option AObj} (hp : X = (1,some (.cells [.f (.int .i64 room),.f (.int .i64 lease),.sl i1 v1 5 0 n,.sl i2 v2 3 0 m]))) (h1 : cellsOf v1 (H i1) = some (xs.map .f)) (h2 : cellsOf v2 (H i2) = some (ys.map .f)) (l1 : n * 5 ≤ xs.length) (l2 : m * 3 ≤ ys.length) (hne : i1 ≠ i2 := by decide) (hn1 : 100001 ≠ i1 := by decide) (hn2 : 100001 ≠ i2 := by decide) :
  ∃ l cs',AV.f (.bool b) = oneOrTup l ∧ X = (1,some (.cells cs')) ∧ RcsOk H [.v (.int .i64 room),.v (.int .i64 lease),.own 5 n xs,.own 3 m ys] cs' ∧ RsOk H [.c (.v (.bool b))] l ∧ (idsC cs' ++ idsS l).Nodup ∧ ¬100001 ∈ idsC cs' ++ idsS l :=
 ⟨[.f (.bool b)],_,rfl,hp,⟨rfl,rfl,.inr ⟨i1,v1,rfl,h1,l1⟩,.inr ⟨i2,v2,rfl,h2,l2⟩,rfl⟩,⟨rfl,rfl⟩,by simp [idsC,idsS,hne],by simp [idsC,idsS,hn1,hn2]⟩
theorem lenB5 {bl : List Blob} {n : Nat} (h : bl.length = n) : n * 5 ≤ (rowF fBlob bl).length := by rw [row_len (sz := 5) (fun _ => rfl),h];exact Nat.le_refl _
theorem lenE3 {en : List Entry} {n : Nat} (h : en.length = n) : n * 3 ≤ (rowF fEntry en).length := by rw [row_len (sz := 3) (fun _ => rfl),h];exact Nat.le_refl _
def pcs4 (c : Cache) : List RC := [.v (.int .i64 c.1),.v (.int .i64 c.2.1),.own 5 c.2.2.1.length (rowF fBlob c.2.2.1),.own 3 c.2.2.2.length (rowF fEntry c.2.2.2)]
set_option maxHeartbeats 8000000 in
theorem line_f (c : Cache) (i : Int) (s : ByteArray) (hs : s.size ≤ 2000000) (hb : c.2.2.1.length ≤ 10000000) (he : c.2.2.2.length ≤ 10000000) :
  FRetP Tryz.prog 19 (pcs4 c) [] [.f (.int .i64 i),.f (.str s)] (pcs4 ((lineW c (decide (i = 0)) (splitS s 32)).getD c)) [.c (.v (.bool (lineW c (decide (i = 0)) (splitS s 32)).isSome))] := by
 have hS : FRet Tryz.prog 36 [.f (.str s),.f (.str ⟨#[32]⟩)] [.c (.v (frStrs (splitS s 32)))] := split_f s 32 (by omega)
 have hwl : (splitS s 32).length ≤ 2000001 := by
  rw [splitS_len]
  have := Lib.countB_le (sep 32) (by show 1 ≤ 1;decide) s.size s (Nat.le_refl _)
  omega
 have hne := splitS_ne s
 generalize splitS s 32 = w at hS hwl hne ⊢
 obtain ⟨k,hk⟩ := get_some (l := w) (i := 0) (List.length_pos_iff.2 hne)
 have hC := contains_h w ⟨#[]⟩ (by omega)
 have hw0 : 0 < w.length := List.length_pos_iff.2 hne
 have p0 := lt_t hw0
 clear hne
 obtain ⟨room,lease,bl,en⟩ := c
 dsimp only at hb he
 refine FCall.of_ax low_cache_line ?_
 dsimp only [l_cache_line,pcs4]
 cases hh : hasS (⟨#[]⟩ : ByteArray) w
 case true =>
  have e1 : lineW (room,lease,bl,en) (decide (i = 0)) w = none := by unfold lineW;rw [if_pos hh]
  rw [e1]
  dsimp only [Option.getD_none,Option.isSome_none]
  rw [hh] at hC
  clear hh e1
  refine srun_sound 300 _ _ _ _ ?_
  repeat' (first
   | (simp -implicitDefEqProofs only [*,zr,Nat.reduceAdd,Nat.reduceSub,Nat.reduceMul,Nat.reduceLT,Nat.reduceLeDiff,Nat.reduceEqDiff,Nat.reduceBEq,reduceIte,reduceCtorEq,Int.reduceLE,Int.reduceLT,Int.reduceToNat,Int.reduceEq,Int.reduceNe])
   | ((first|apply zk0|apply zk1|apply zk2|apply zk3|apply zk4|apply zk5|apply zk6|apply zk7|apply zk8|apply zk9) <;> intro hc)
   |(refine callP0 rfl ?_)
   |(refine callD0 rfl ?_)
   |(refine cP (hS) ?_)
   |(refine cD (hS) ?_)
   |(refine cF (hS) ?_)
   |(refine cO (hS) ?_)
   |(refine cP (hC) ?_)
   |(refine cD (hC) ?_)
   |(refine cF (hC) ?_)
   |(refine cO (hC) ?_)
   | fail)
  exact endL rfl rfl rfl (lenB5 rfl) (lenE3 rfl)
 rw [hh] at hC
 have tk : List.take w.length (w.map fun s => [FV.str s]) = w.map fun s => [FV.str s] := List.take_of_length_le (by rw [List.length_map];exact Nat.le_refl _)
 by_cases hi : i = 0
 case pos =>
  have di : decide (i = 0) = true := dec_t hi
  rw [di]
  have hN := numbers_z (w.drop 1) (by rw [List.length_drop];omega)
  unfold frStrs at hN
  rw [List.map_drop] at hN
  have l1 := le_tt (show (1 : Int) ≤ w.length by omega)
  by_cases hkw : k = cacheW
  case neg =>
   have e1 : lineW (room,lease,bl,en) true w = none := by
    unfold lineW
    rw [if_neg (by rw [hh];decide),if_pos rfl,hk,if_neg (by simpa using hkw)]
   rw [e1]
   dsimp only [Option.getD_none,Option.isSome_none]
   have dk : decide (k = (⟨#[99,97,99,104,101]⟩ : ByteArray)) = false := dec_f hkw
   clear hh e1 hkw
   refine srun_sound 300 _ _ _ _ ?_
   repeat' (first
    | (simp -implicitDefEqProofs only [*,Int.le_refl,frStrs,List.getElem?_map,Option.map_some,List.length_map,zr,Nat.reduceAdd,Nat.reduceSub,Nat.reduceMul,Nat.reduceLT,Nat.reduceLeDiff,Nat.reduceEqDiff,Nat.reduceBEq,reduceIte,reduceCtorEq,Int.reduceLE,Int.reduceLT,Int.reduceToNat,Int.reduceEq,Int.reduceNe])
    | ((first|apply zk0|apply zk1|apply zk2|apply zk3|apply zk4|apply zk5|apply zk6|apply zk7|apply zk8|apply zk9) <;> intro hc)
    |(refine callP0 rfl ?_)
    |(refine callD0 rfl ?_)
    |(refine cP (hS) ?_)
    |(refine cD (hS) ?_)
    |(refine cF (hS) ?_)
    |(refine cO (hS) ?_)
    |(refine cP (hC) ?_)
    |(refine cD (hC) ?_)
    |(refine cF (hC) ?_)
    |(refine cO (hC) ?_)
    |(refine cP (hN) ?_)
    |(refine cD (hN) ?_)
    |(refine cF (hN) ?_)
    |(refine cO (hN) ?_)
    | fail)
   exact endL rfl rfl rfl (lenB5 rfl) (lenE3 rfl)
  have dk : decide (k = (⟨#[99,97,99,104,101]⟩ : ByteArray)) = true := dec_t hkw
  have e1 : lineW (room,lease,bl,en) true w = (match nvL (w.drop 1) with
   | [a,b] => some (a,b,bl,en)
   | _ => none) := by
   unfold lineW
   rw [if_neg (by rw [hh];decide),if_pos rfl,hk,if_pos (by rw [hkw])]
   all_goals rfl
  rw [e1]
  cases hv : (numV (w.drop 1)).isSome
  ·rw [nvL_none hv] at hN ⊢
   rw [hv] at hN
   dsimp only [Option.getD_none,Option.isSome_none]
   clear hh e1 hkw hv
   refine srun_sound 300 _ _ _ _ ?_
   repeat' (first
    | (simp -implicitDefEqProofs only [*,Int.le_refl,frStrs,frI,List.map_nil,List.getElem?_map,Option.map_some,List.length_map,zr,Nat.reduceAdd,Nat.reduceSub,Nat.reduceMul,Nat.reduceLT,Nat.reduceLeDiff,Nat.reduceEqDiff,Nat.reduceBEq,reduceIte,reduceCtorEq,Int.reduceLE,Int.reduceLT,Int.reduceToNat,Int.reduceEq,Int.reduceNe])
    | ((first|apply zk0|apply zk1|apply zk2|apply zk3|apply zk4|apply zk5|apply zk6|apply zk7|apply zk8|apply zk9) <;> intro hc)
    |(refine callP0 rfl ?_)
    |(refine callD0 rfl ?_)
    |(refine cP (hS) ?_)
    |(refine cD (hS) ?_)
    |(refine cF (hS) ?_)
    |(refine cO (hS) ?_)
    |(refine cP (hC) ?_)
    |(refine cD (hC) ?_)
    |(refine cF (hC) ?_)
    |(refine cO (hC) ?_)
    |(refine cP (hN) ?_)
    |(refine cD (hN) ?_)
    |(refine cF (hN) ?_)
    |(refine cO (hN) ?_)
    | fail)
   exact endL rfl rfl rfl (lenB5 rfl) (lenE3 rfl)
  rw [hv] at hN
  clear hh e1 hkw hv
  by_cases h2 : (nvL (w.drop 1)).length = 2
  ·obtain ⟨a,b,hab⟩ : ∃ a b,nvL (w.drop 1) = [a,b] := by
    match nvL (w.drop 1),h2 with
    | [a,b],_ => exact ⟨a,b,rfl⟩
   rw [hab] at hN ⊢
   clear h2 hab
   have n2 : ((2 : Nat) : Int) = 2 := rfl
   dsimp only [Option.getD_some,Option.isSome_some]
   refine srun_sound 300 _ _ _ _ ?_
   repeat' (first
    | (simp -implicitDefEqProofs only [*,Int.le_refl,frStrs,frI,List.map_nil,List.map_cons,List.length_cons,List.length_nil,List.getElem?_cons_zero,List.getElem?_cons_succ,List.getElem?_map,Option.map_some,List.length_map,addFp_wr,zr,Nat.reduceAdd,Nat.reduceSub,Nat.reduceMul,Nat.reduceLT,Nat.reduceLeDiff,Nat.reduceEqDiff,Nat.reduceBEq,reduceIte,reduceCtorEq,Int.reduceLE,Int.reduceLT,Int.reduceToNat,Int.reduceEq,Int.reduceNe])
    | ((first|apply zk0|apply zk1|apply zk2|apply zk3|apply zk4|apply zk5|apply zk6|apply zk7|apply zk8|apply zk9) <;> intro hc)
    |(refine callP0 rfl ?_)
    |(refine callD0 rfl ?_)
    |(refine cP (hS) ?_)
    |(refine cD (hS) ?_)
    |(refine cF (hS) ?_)
    |(refine cO (hS) ?_)
    |(refine cP (hC) ?_)
    |(refine cD (hC) ?_)
    |(refine cF (hC) ?_)
    |(refine cO (hC) ?_)
    |(refine cP (hN) ?_)
    |(refine cD (hN) ?_)
    |(refine cF (hN) ?_)
    |(refine cO (hN) ?_)
    | fail)
   exact endL rfl rfl rfl (lenB5 rfl) (lenE3 rfl)
  ·have d2 : decide (((nvL (w.drop 1)).length : Int) = 2) = false := dec_f (by omega)
   have e2 : (match nvL (w.drop 1) with
    | [a,b] => some (a,b,bl,en)
    | _ => none) = (none : Option Cache) := by
    split
    ·rename_i a b hq;rw [hq] at h2;exact absurd rfl h2
    ·rfl
   rw [e2]
   dsimp only [Option.getD_none,Option.isSome_none]
   clear h2 e2
   refine srun_sound 300 _ _ _ _ ?_
   repeat' (first
    | (simp -implicitDefEqProofs only [*,Int.le_refl,frStrs,frI,List.getElem?_map,Option.map_some,List.length_map,zr,Nat.reduceAdd,Nat.reduceSub,Nat.reduceMul,Nat.reduceLT,Nat.reduceLeDiff,Nat.reduceEqDiff,Nat.reduceBEq,reduceIte,reduceCtorEq,Int.reduceLE,Int.reduceLT,Int.reduceToNat,Int.reduceEq,Int.reduceNe])
    | ((first|apply zk0|apply zk1|apply zk2|apply zk3|apply zk4|apply zk5|apply zk6|apply zk7|apply zk8|apply zk9) <;> intro hc)
    |(refine callP0 rfl ?_)
    |(refine callD0 rfl ?_)
    |(refine cP (hS) ?_)
    |(refine cD (hS) ?_)
    |(refine cF (hS) ?_)
    |(refine cO (hS) ?_)
    |(refine cP (hC) ?_)
    |(refine cD (hC) ?_)
    |(refine cF (hC) ?_)
    |(refine cO (hC) ?_)
    |(refine cP (hN) ?_)
    |(refine cD (hN) ?_)
    |(refine cF (hN) ?_)
    |(refine cO (hN) ?_)
    | fail)
   exact endL rfl rfl rfl (lenB5 rfl) (lenE3 rfl)
 have di : decide (i = 0) = false := dec_f hi
 rw [di]
 clear hi
 have hnb : ∀ r,(if w[0]? = some entryW ∧ 3 ≤ w.length then r else none) = (if k = entryW ∧ 3 ≤ w.length then r else (none : Option Cache)) := fun r => by rw [hk];simp
 have e0 : lineW (room,lease,bl,en) false w = if k = blobW ∧ w.length = 6 ∧ en.length = 0 then (match w[1]?,nvL (w.drop 2) with
  | some d,[n0,n1,n2,n3] => some (room,lease,bl ++ [(d,n0,n1,n2,n3)],en)
  | _,_ => none)
  else if k = entryW ∧ 3 ≤ w.length then (match w[1]?,nvL ((w.drop 2).take 1) with
   | some d,[n0] => some (room,lease,bl,en ++ [(d,w.drop 3,n0)])
   | _,_ => none)
  else none := by
  unfold lineW
  rw [if_neg (by rw [hh];decide),if_neg (by decide),hk]
  simp only [Option.some.injEq]
  rfl
 clear hh hnb
 by_cases hkb : k = blobW ∧ w.length = 6 ∧ en.length = 0
 case pos =>
  rw [e0,if_pos hkb]
  obtain ⟨hkb,hw6,hen⟩ := hkb
  obtain rfl : en = [] := List.eq_nil_of_length_eq_zero hen
  have dk : decide (k = (⟨#[98,108,111,98]⟩ : ByteArray)) = true := dec_t hkb
  have n6 : decide ((w.length : Int) = 6) = true := dec_t (by omega)
  have n0 : decide ((([] : List Entry).length : Int) = 0) = true := rfl
  have z0 : ((0 : Nat) : Int) = 0 := rfl
  have l1 := le_tt (show (2 : Int) ≤ w.length by omega)
  obtain ⟨d,hd⟩ := get_some (l := w) (i := 1) (by omega)
  have p1 := lt_t (show 1 < w.length by omega)
  rw [hd]
  have hN := numbers_z (w.drop 2) (by rw [List.length_drop];omega)
  unfold frStrs at hN
  rw [List.map_drop] at hN
  clear e0 hkb hen
  cases hv : (numV (w.drop 2)).isSome
  ·rw [nvL_none hv] at hN ⊢
   rw [hv] at hN
   dsimp only [Option.getD_none,Option.isSome_none]
   clear hv hw6
   refine srun_sound 300 _ _ _ _ ?_
   repeat' (first
    | (simp -implicitDefEqProofs only [*,Int.le_refl,frStrs,frI,List.map_nil,List.getElem?_map,Option.map_some,List.length_map,zr,Nat.reduceAdd,Nat.reduceSub,Nat.reduceMul,Nat.reduceLT,Nat.reduceLeDiff,Nat.reduceEqDiff,Nat.reduceBEq,reduceIte,reduceCtorEq,Int.reduceLE,Int.reduceLT,Int.reduceToNat,Int.reduceEq,Int.reduceNe])
    | ((first|apply zk0|apply zk1|apply zk2|apply zk3|apply zk4|apply zk5|apply zk6|apply zk7|apply zk8|apply zk9) <;> intro hc)
    |(refine callP0 rfl ?_)
    |(refine callD0 rfl ?_)
    |(refine cP (hS) ?_)
    |(refine cD (hS) ?_)
    |(refine cF (hS) ?_)
    |(refine cO (hS) ?_)
    |(refine cP (hC) ?_)
    |(refine cD (hC) ?_)
    |(refine cF (hC) ?_)
    |(refine cO (hC) ?_)
    |(refine cP (hN) ?_)
    |(refine cD (hN) ?_)
    |(refine cF (hN) ?_)
    |(refine cO (hN) ?_)
    | fail)
   exact endL rfl rfl rfl (lenB5 rfl) (lenE3 rfl)
  have hl4 := nvL_some hv
  rw [List.length_drop,hw6] at hl4
  rw [hv] at hN
  obtain ⟨m0,m1,m2,m3,hab⟩ : ∃ a b c d,nvL (w.drop 2) = [a,b,c,d] := by
   match nvL (w.drop 2),hl4 with
   | [a,b,c,d],_ => exact ⟨a,b,c,d,rfl⟩
  rw [hab] at hN ⊢
  clear hv hab hl4 hw6
  dsimp only [Option.getD_some,Option.isSome_some]
  have h8 : ((bl.length + 1) * 48 ≤ 140737488355328) = True := by rw [eq_iff_iff,iff_true];omega
  have q0 : (rowF fBlob bl).length = bl.length * 5 := row_len (sz := 5) (fun _ => rfl)
  have hsn := row_snoc (enc := fBlob) (m := bl) (x := (d,m0,m1,m2,m3))
  rw [hsn,List.length_append,List.length_singleton]
  replace hsn := hide hsn
  refine srun_sound 300 _ _ _ _ ?_
  repeat' (first
   | (simp -implicitDefEqProofs only [*,Int.le_refl,frStrs,frI,List.map_nil,List.map_cons,List.length_cons,List.length_nil,List.getElem?_cons_zero,List.getElem?_cons_succ,List.getElem?_map,Option.map_some,List.length_map,addFp_wr,zr,Nat.reduceAdd,Nat.reduceSub,Nat.reduceMul,Nat.reduceLT,Nat.reduceLeDiff,Nat.reduceEqDiff,Nat.reduceBEq,reduceIte,reduceCtorEq,Int.reduceLE,Int.reduceLT,Int.reduceToNat,Int.reduceEq,Int.reduceNe])
   | ((first|apply zk0|apply zk1|apply zk2|apply zk3|apply zk4|apply zk5|apply zk6|apply zk7|apply zk8|apply zk9) <;> intro hc)
   |(refine callP0 rfl ?_)
   |(refine callD0 rfl ?_)
   |(refine cP (hS) ?_)
   |(refine cD (hS) ?_)
   |(refine cF (hS) ?_)
   |(refine cO (hS) ?_)
   |(refine cP (hC) ?_)
   |(refine cD (hC) ?_)
   |(refine cF (hC) ?_)
   |(refine cO (hC) ?_)
   |(refine cP (hN) ?_)
   |(refine cD (hN) ?_)
   |(refine cF (hN) ?_)
   |(refine cO (hN) ?_)
   | fail)
  exact endL rfl (by rw [List.map_append];rfl) rfl (by rw [List.length_append,q0,Nat.add_mul];exact Nat.le_refl _) (lenE3 rfl)
 rw [e0,if_neg hkb]
 by_cases hke : k = entryW ∧ 3 ≤ w.length
 case pos =>
  rw [if_pos hke]
  clear e0
  obtain ⟨hke,hw3⟩ := hke
  have dkb : decide (k = (⟨#[98,108,111,98]⟩ : ByteArray)) = false := dec_f (by rw [hke];decide)
  have dke : decide (k = (⟨#[101,110,116,114,121]⟩ : ByteArray)) = true := dec_t hke
  have n3 : decide ((3 : Int) ≤ w.length) = true := dec_t (by omega)
  have n3' : decide ((w.length : Int) ≥ 3) = true := dec_t (by omega)
  have l1 := le_tt (show (2 : Int) ≤ w.length by omega)
  have l3 := le_tt (show (3 : Int) ≤ w.length by omega)
  obtain ⟨d,hd⟩ := get_some (l := w) (i := 1) (by omega)
  have p1 := lt_t (show 1 < w.length by omega)
  rw [hd]
  have e21 : List.drop 2 (List.take 3 (w.map fun s => [FV.str s])) = List.take 1 (List.drop 2 (w.map fun s => [FV.str s])) := by rw [List.drop_take]
  have hN := numbers_z ((w.drop 2).take 1) (by rw [List.length_take];omega)
  unfold frStrs at hN
  rw [List.map_take,List.map_drop,← e21] at hN
  have hCl := cloneT_z (w.drop 3) (by rw [List.length_drop];omega)
  unfold frStrs at hCl
  rw [List.map_drop] at hCl
  clear hke hkb e21
  cases hv : (numV ((w.drop 2).take 1)).isSome
  ·rw [nvL_none hv] at hN ⊢
   rw [hv] at hN
   dsimp only [Option.getD_none,Option.isSome_none]
   clear hv hw3
   refine srun_sound 300 _ _ _ _ ?_
   repeat' (first
    | (simp -implicitDefEqProofs only [*,Int.le_refl,frStrs,frI,List.map_nil,List.getElem?_map,Option.map_some,List.length_map,zr,Nat.reduceAdd,Nat.reduceSub,Nat.reduceMul,Nat.reduceLT,Nat.reduceLeDiff,Nat.reduceEqDiff,Nat.reduceBEq,reduceIte,reduceCtorEq,Int.reduceLE,Int.reduceLT,Int.reduceToNat,Int.reduceEq,Int.reduceNe])
    | ((first|apply zk0|apply zk1|apply zk2|apply zk3|apply zk4|apply zk5|apply zk6|apply zk7|apply zk8|apply zk9) <;> intro hc)
    |(refine callP0 rfl ?_)
    |(refine callD0 rfl ?_)
    |(refine cP (hS) ?_)
    |(refine cD (hS) ?_)
    |(refine cF (hS) ?_)
    |(refine cO (hS) ?_)
    |(refine cP (hC) ?_)
    |(refine cD (hC) ?_)
    |(refine cF (hC) ?_)
    |(refine cO (hC) ?_)
    |(refine cP (hN) ?_)
    |(refine cD (hN) ?_)
    |(refine cF (hN) ?_)
    |(refine cO (hN) ?_)
    | fail)
   exact endL rfl rfl rfl (lenB5 rfl) (lenE3 rfl)
  have hl4 := nvL_some hv
  rw [List.length_take,List.length_drop,show min 1 (w.length - 2) = 1 by omega] at hl4
  rw [hv] at hN
  obtain ⟨m0,hab⟩ : ∃ a,nvL ((w.drop 2).take 1) = [a] := by
   match nvL ((w.drop 2).take 1),hl4 with
   | [a],_ => exact ⟨a,rfl⟩
  rw [hab] at hN ⊢
  clear hv hab hl4 hw3
  dsimp only [Option.getD_some,Option.isSome_some]
  have h8 : ((en.length + 1) * 48 ≤ 140737488355328) = True := by rw [eq_iff_iff,iff_true];omega
  have q0 : (rowF fEntry en).length = en.length * 3 := row_len (sz := 3) (fun _ => rfl)
  have hsn := row_snoc (enc := fEntry) (m := en) (x := (d,w.drop 3,m0))
  rw [hsn,List.length_append,List.length_singleton]
  replace hsn := hide hsn
  refine srun_sound 300 _ _ _ _ ?_
  repeat' (first
   | (simp -implicitDefEqProofs only [*,Int.le_refl,frStrs,frI,List.map_nil,List.map_cons,List.length_cons,List.length_nil,List.getElem?_cons_zero,List.getElem?_cons_succ,List.getElem?_map,Option.map_some,List.length_map,addFp_wr,zr,Nat.reduceAdd,Nat.reduceSub,Nat.reduceMul,Nat.reduceLT,Nat.reduceLeDiff,Nat.reduceEqDiff,Nat.reduceBEq,reduceIte,reduceCtorEq,Int.reduceLE,Int.reduceLT,Int.reduceToNat,Int.reduceEq,Int.reduceNe])
   | ((first|apply zk0|apply zk1|apply zk2|apply zk3|apply zk4|apply zk5|apply zk6|apply zk7|apply zk8|apply zk9) <;> intro hc)
   |(refine callP0 rfl ?_)
   |(refine callD0 rfl ?_)
   |(refine cP (hS) ?_)
   |(refine cD (hS) ?_)
   |(refine cF (hS) ?_)
   |(refine cO (hS) ?_)
   |(refine cP (hC) ?_)
   |(refine cD (hC) ?_)
   |(refine cF (hC) ?_)
   |(refine cO (hC) ?_)
   |(refine cP (hN) ?_)
   |(refine cD (hN) ?_)
   |(refine cF (hN) ?_)
   |(refine cO (hN) ?_)
   |(refine cP (hCl) ?_)
   |(refine cD (hCl) ?_)
   |(refine cF (hCl) ?_)
   |(refine cO (hCl) ?_)
   | fail)
  exact endL rfl rfl (by
   rw [List.map_append]
   show _ = some (_ ++ [_,AV.f (.fr 1 ((w.drop 3).map fun s => [FV.str s])),_])
   rw [List.map_drop];rfl) (lenB5 rfl) (by rw [List.length_append,q0,Nat.add_mul];exact Nat.le_refl _)
 rw [if_neg hke]
 dsimp only [Option.getD_none,Option.isSome_none]
 clear e0 tk p0
 by_cases kb : k = blobW
 ·have dkb : decide (k = (⟨#[98,108,111,98]⟩ : ByteArray)) = true := dec_t kb
  have dke : decide (k = (⟨#[101,110,116,114,121]⟩ : ByteArray)) = false := dec_f (by rw [kb];decide)
  by_cases h6 : w.length = 6
  ·have d6 : decide ((w.length : Int) = 6) = true := dec_t (by omega)
   have de : decide ((en.length : Int) = 0) = false := dec_f (fun e => hkb ⟨kb,h6,by omega⟩)
   have p0 := lt_t hw0
   clear hkb hke kb h6
   refine srun_sound 300 _ _ _ _ ?_
   repeat' (first
    | (simp -implicitDefEqProofs only [*,Int.le_refl,frStrs,List.getElem?_map,Option.map_some,List.length_map,zr,Nat.reduceAdd,Nat.reduceSub,Nat.reduceMul,Nat.reduceLT,Nat.reduceLeDiff,Nat.reduceEqDiff,Nat.reduceBEq,reduceIte,reduceCtorEq,Int.reduceLE,Int.reduceLT,Int.reduceToNat,Int.reduceEq,Int.reduceNe])
    | ((first|apply zk0|apply zk1|apply zk2|apply zk3|apply zk4|apply zk5|apply zk6|apply zk7|apply zk8|apply zk9) <;> intro hc)
    |(refine callP0 rfl ?_)
    |(refine callD0 rfl ?_)
    |(refine cP (hS) ?_)
    |(refine cD (hS) ?_)
    |(refine cF (hS) ?_)
    |(refine cO (hS) ?_)
    |(refine cP (hC) ?_)
    |(refine cD (hC) ?_)
    |(refine cF (hC) ?_)
    |(refine cO (hC) ?_)
    | fail)
   exact endL rfl rfl rfl (lenB5 rfl) (lenE3 rfl)
  ·have d6 : decide ((w.length : Int) = 6) = false := dec_f (by omega)
   have p0 := lt_t hw0
   clear hkb hke kb h6
   refine srun_sound 300 _ _ _ _ ?_
   repeat' (first
    | (simp -implicitDefEqProofs only [*,Int.le_refl,frStrs,List.getElem?_map,Option.map_some,List.length_map,zr,Nat.reduceAdd,Nat.reduceSub,Nat.reduceMul,Nat.reduceLT,Nat.reduceLeDiff,Nat.reduceEqDiff,Nat.reduceBEq,reduceIte,reduceCtorEq,Int.reduceLE,Int.reduceLT,Int.reduceToNat,Int.reduceEq,Int.reduceNe])
    | ((first|apply zk0|apply zk1|apply zk2|apply zk3|apply zk4|apply zk5|apply zk6|apply zk7|apply zk8|apply zk9) <;> intro hc)
    |(refine callP0 rfl ?_)
    |(refine callD0 rfl ?_)
    |(refine cP (hS) ?_)
    |(refine cD (hS) ?_)
    |(refine cF (hS) ?_)
    |(refine cO (hS) ?_)
    |(refine cP (hC) ?_)
    |(refine cD (hC) ?_)
    |(refine cF (hC) ?_)
    |(refine cO (hC) ?_)
    | fail)
   exact endL rfl rfl rfl (lenB5 rfl) (lenE3 rfl)
 ·have dkb : decide (k = (⟨#[98,108,111,98]⟩ : ByteArray)) = false := dec_f kb
  by_cases ke : k = entryW
  ·have dke : decide (k = (⟨#[101,110,116,114,121]⟩ : ByteArray)) = true := dec_t ke
   have d3 : decide ((w.length : Int) ≥ 3) = false := dec_f (fun e => hke ⟨ke,by omega⟩)
   have d3' : decide ((3 : Int) ≤ w.length) = false := d3
   have p0 := lt_t hw0
   clear hkb hke kb ke
   refine srun_sound 300 _ _ _ _ ?_
   repeat' (first
    | (simp -implicitDefEqProofs only [*,Int.le_refl,frStrs,List.getElem?_map,Option.map_some,List.length_map,zr,Nat.reduceAdd,Nat.reduceSub,Nat.reduceMul,Nat.reduceLT,Nat.reduceLeDiff,Nat.reduceEqDiff,Nat.reduceBEq,reduceIte,reduceCtorEq,Int.reduceLE,Int.reduceLT,Int.reduceToNat,Int.reduceEq,Int.reduceNe])
    | ((first|apply zk0|apply zk1|apply zk2|apply zk3|apply zk4|apply zk5|apply zk6|apply zk7|apply zk8|apply zk9) <;> intro hc)
    |(refine callP0 rfl ?_)
    |(refine callD0 rfl ?_)
    |(refine cP (hS) ?_)
    |(refine cD (hS) ?_)
    |(refine cF (hS) ?_)
    |(refine cO (hS) ?_)
    |(refine cP (hC) ?_)
    |(refine cD (hC) ?_)
    |(refine cF (hC) ?_)
    |(refine cO (hC) ?_)
    | fail)
   exact endL rfl rfl rfl (lenB5 rfl) (lenE3 rfl)
  ·have dke : decide (k = (⟨#[101,110,116,114,121]⟩ : ByteArray)) = false := dec_f ke
   have p0 := lt_t hw0
   clear hkb hke kb ke
   refine srun_sound 300 _ _ _ _ ?_
   repeat' (first
    | (simp -implicitDefEqProofs only [*,Int.le_refl,frStrs,List.getElem?_map,Option.map_some,List.length_map,zr,Nat.reduceAdd,Nat.reduceSub,Nat.reduceMul,Nat.reduceLT,Nat.reduceLeDiff,Nat.reduceEqDiff,Nat.reduceBEq,reduceIte,reduceCtorEq,Int.reduceLE,Int.reduceLT,Int.reduceToNat,Int.reduceEq,Int.reduceNe])
    | ((first|apply zk0|apply zk1|apply zk2|apply zk3|apply zk4|apply zk5|apply zk6|apply zk7|apply zk8|apply zk9) <;> intro hc)
    |(refine callP0 rfl ?_)
    |(refine callD0 rfl ?_)
    |(refine cP (hS) ?_)
    |(refine cD (hS) ?_)
    |(refine cF (hS) ?_)
    |(refine cO (hS) ?_)
    |(refine cP (hC) ?_)
    |(refine cD (hC) ?_)
    |(refine cF (hC) ?_)
    |(refine cO (hC) ?_)
    | fail)
   exact endL rfl rfl rfl (lenB5 rfl) (lenE3 rfl)
end Go.Proofs.YthniagdphhcnkaaGreatDoor
