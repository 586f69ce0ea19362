/-
  The document's line. No statement of the seat is proved here; no conditions.
-/
import Derived.Test.YthniagdphhcnkaaGreatDoorTyR
namespace Go.Proofs.YthniagdphhcnkaaGreatDoor
open Go.RowKit Go.Shelf
set_option linter.unusedVariables false
set_option linter.unusedSimpArgs false
set_option maxRecDepth 100000

set_option maxHeartbeats 8000000 in
theorem lineR_f (c : Cache) (first : Bool) (s : ByteArray) (hs : s.size ≤ 2000000) (hb : c.2.2.1.length ≤ 10000000) (he : c.2.2.2.length ≤ 10000000) :
  FRetP Tryz.prog 20 (pcs4 c) [] [.f (.str s),.f (.bool first)] (pcs4 ((lineW c first (splitS s 32)).getD c)) [.c (.v (.bool (lineW c first (splitS s 32)).isSome))] := by
 have hS : FRet Tryz.prog 36 [.f (.str s),.f (.str ⟨#[32]⟩)] [.c (.v (frStrs (splitS s 32)))] := split_f s 32 (by omega)
 have hwl : (splitS s 32).length ≤ 2000001 := by
  rw [splitS_len]
  have := Lib.countB_le (sep 32) (by show 1 ≤ 1;decide) s.size s (Nat.le_refl _)
  omega
 have hne := splitS_ne s
 generalize splitS s 32 = w at hS hwl hne ⊢
 obtain ⟨k,hk⟩ := get_some (l := w) (i := 0) (List.length_pos_iff.2 hne)
 have hw0 : 0 < w.length := List.length_pos_iff.2 hne
 have p0 := lt_t hw0
 clear hne
 obtain ⟨room,lease,bl,en⟩ := c
 dsimp only at hb he
 refine FCall.of_ax low_ref7_line ?_
 dsimp only [l_ref7_line,pcs4]
 refine srun_sound 300 _ _ _ _ ?_
 repeat' (first
  | (simp -implicitDefEqProofs only [*,frStrs,List.length_map,zr,Nat.reduceAdd,Nat.reduceSub,Nat.reduceMul,Nat.reduceLT,Nat.reduceLeDiff,Nat.reduceEqDiff,Nat.reduceBEq,reduceIte,reduceCtorEq,Int.reduceLE,Int.reduceLT,Int.reduceToNat,Int.reduceEq,Int.reduceNe])
  | ((first|apply zk0|apply zk1|apply zk2|apply zk3|apply zk4|apply zk5|apply zk6|apply zk7|apply zk8|apply zk9) <;> intro hc)
  |(refine callP0 rfl ?_)
  |(refine callD0 rfl ?_)
  |(refine cP (hS) ?_)
  |(refine cD (hS) ?_)
  |(refine cF (hS) ?_)
  | fail)
 refine ax_loopU (S := Nat) 146 [0,2,7] [100001,80000,81000] (fun s => [(8,.f (.int .i64 s))]) (fun s => []) (fun s => s ≤ w.length ∧ ∀ (m : Nat) x,m < s → w[m]? = some x → x ≠ ⟨#[]⟩) (fun s => w.length - s) (0) [] ?_ ?_ fun s hs => ?_
 ·exact ⟨Nat.zero_le _,fun m x h => absurd h (by omega)⟩
 ·refine wk_i ?_ ?_ <;> simp only [zw,Nat.reduceEqDiff,Nat.reduceBEq,Nat.reduceLT,Nat.reduceLeDiff,reduceIte,reduceCtorEq]
 obtain ⟨hi,hall⟩ := hs
 dsimp only [cellsG]
 replace hall := hide hall
 rename_i s0
 rcases Nat.lt_or_ge s w.length with hlt | hge
 ·obtain ⟨x,hx⟩ := get_some hlt
  have h4 := inc64 hlt (by omega)
  have h2 := lt_t hlt
  have hxm := List.mem_of_getElem? hx
  by_cases hx0 : x = ⟨#[]⟩
  ·have hh : hasS (⟨#[]⟩ : ByteArray) w = true := hasS_iff.2 (hx0 ▸ hxm)
   have e1 : lineW (room,lease,bl,en) first w = none := by unfold lineW;rw [if_pos hh]
   rw [e1]
   dsimp only [Option.getD_none,Option.isSome_none]
   have d1 : decide (x = (⟨#[]⟩ : ByteArray)) = true := dec_t hx0
   clear hh e1 hx0 hxm
   refine srun_sound 300 _ _ _ _ ?_
   repeat' (first
    | (simp -implicitDefEqProofs only [*,List.getElem?_map,Option.map_some,zr,Nat.reduceAdd,Nat.reduceSub,Nat.reduceMul,Nat.reduceLT,Nat.reduceLeDiff,Nat.reduceEqDiff,Nat.reduceBEq,reduceIte,reduceCtorEq,Int.reduceLE,Int.reduceLT,Int.reduceToNat,Int.reduceEq,Int.reduceNe])
    | ((first|apply zk0|apply zk1|apply zk2|apply zk3|apply zk4|apply zk5|apply zk6|apply zk7|apply zk8|apply zk9) <;> intro hc)
    |(refine callP0 rfl ?_)
    |(refine callD0 rfl ?_)
    | fail)
   exact endL rfl rfl rfl (lenB5 rfl) (lenE3 rfl)
  ·have d1 : decide (x = (⟨#[]⟩ : ByteArray)) = false := dec_f hx0
   replace hx0 := hide hx0
   clear hxm
   refine srun_sound 300 _ _ _ _ ?_
   repeat' (first
    | (simp -implicitDefEqProofs only [*,List.getElem?_map,Option.map_some,zr,Nat.reduceAdd,Nat.reduceSub,Nat.reduceMul,Nat.reduceLT,Nat.reduceLeDiff,Nat.reduceEqDiff,Nat.reduceBEq,reduceIte,reduceCtorEq,Int.reduceLE,Int.reduceLT,Int.reduceToNat,Int.reduceEq,Int.reduceNe])
    | ((first|apply zk0|apply zk1|apply zk2|apply zk3|apply zk4|apply zk5|apply zk6|apply zk7|apply zk8|apply zk9) <;> intro hc)
    |(refine callP0 rfl ?_)
    |(refine callD0 rfl ?_)
    | fail)
   refine ⟨s + 1,⟨hlt,fun m y hm hy => ?_⟩,by omega,?_⟩
   ·rcases Nat.lt_succ_iff_lt_or_eq.1 hm with h1 | rfl
    ·exact hall.out m y h1 hy
    ·rw [hx] at hy;obtain rfl := Option.some.inj hy;exact hx0.out
   ·refine wk_i ?_ ?_ <;> simp only [zw,Nat.reduceEqDiff,Nat.reduceBEq,Nat.reduceLT,Nat.reduceLeDiff,reduceIte,reduceCtorEq]
 obtain rfl : s = w.length := by omega
 have g2 := lt_f hge
 have hh : hasS (⟨#[]⟩ : ByteArray) w = false := by
  rw [← Bool.not_eq_true,hasS_iff]
  intro hm
  obtain ⟨m,hm⟩ := List.mem_iff_getElem?.1 hm
  exact hall.out m _ (List.getElem?_eq_some_iff.1 hm).1 hm rfl
 clear hall hge hi
 have tk : List.take w.length (w.map fun s => [FV.str s]) = w.map fun s => [FV.str s] := List.take_of_length_le (by rw [List.length_map];exact Nat.le_refl _)
 cases first
 case true =>
  have hN := numbersR_z (w.drop 1) (by rw [List.length_drop];omega)
  unfold frStrs at hN
  rw [List.map_drop] at hN
  have l1 := le_tt (show (1 : Int) ≤ w.length by omega)
  by_cases hkw : k = cacheW
  case neg =>
   have e1 : lineW (room,lease,bl,en) true w = none := by
    unfold lineW
    rw [if_neg (by rw [hh];decide),if_pos rfl,hk,if_neg (by simpa using hkw)]
   rw [e1]
   dsimp only [Option.getD_none,Option.isSome_none]
   have dk : decide (k = (⟨#[99,97,99,104,101]⟩ : ByteArray)) = false := dec_f hkw
   clear hh e1 hkw
   refine srun_sound 300 _ _ _ _ ?_
   repeat' (first
    | (simp -implicitDefEqProofs only [*,Int.le_refl,frStrs,List.getElem?_map,Option.map_some,List.length_map,zr,Nat.reduceAdd,Nat.reduceSub,Nat.reduceMul,Nat.reduceLT,Nat.reduceLeDiff,Nat.reduceEqDiff,Nat.reduceBEq,reduceIte,reduceCtorEq,Int.reduceLE,Int.reduceLT,Int.reduceToNat,Int.reduceEq,Int.reduceNe])
    | ((first|apply zk0|apply zk1|apply zk2|apply zk3|apply zk4|apply zk5|apply zk6|apply zk7|apply zk8|apply zk9) <;> intro hc)
    |(refine callP0 rfl ?_)
    |(refine callD0 rfl ?_)
    |(refine cP (hN) ?_)
    |(refine cD (hN) ?_)
    |(refine cF (hN) ?_)
    | fail)
   exact endL rfl rfl rfl (lenB5 rfl) (lenE3 rfl)
  have dk : decide (k = (⟨#[99,97,99,104,101]⟩ : ByteArray)) = true := dec_t hkw
  have e1 : lineW (room,lease,bl,en) true w = (match nvL (w.drop 1) with
   | [a,b] => some (a,b,bl,en)
   | _ => none) := by
   unfold lineW
   rw [if_neg (by rw [hh];decide),if_pos rfl,hk,if_pos (by rw [hkw])]
   all_goals rfl
  rw [e1]
  by_cases h3 : w.length = 3
  case neg =>
   have d3 : decide ((w.length : Int) = 3) = false := dec_f (by omega)
   have hn2 : (nvL (w.drop 1)).length ≠ 2 := by
    cases hv : (numV (w.drop 1)).isSome
    ·rw [nvL_none hv];decide
    ·rw [nvL_some hv,List.length_drop];omega
   have e2 : (match nvL (w.drop 1) with
    | [a,b] => some (a,b,bl,en)
    | _ => none) = (none : Option Cache) := by
    split
    ·rename_i a b hq;rw [hq] at hn2;exact absurd rfl hn2
    ·rfl
   rw [e2]
   dsimp only [Option.getD_none,Option.isSome_none]
   clear hh e1 hkw h3 hn2 e2
   refine srun_sound 300 _ _ _ _ ?_
   repeat' (first
    | (simp -implicitDefEqProofs only [*,Int.le_refl,frStrs,List.getElem?_map,Option.map_some,List.length_map,zr,Nat.reduceAdd,Nat.reduceSub,Nat.reduceMul,Nat.reduceLT,Nat.reduceLeDiff,Nat.reduceEqDiff,Nat.reduceBEq,reduceIte,reduceCtorEq,Int.reduceLE,Int.reduceLT,Int.reduceToNat,Int.reduceEq,Int.reduceNe])
    | ((first|apply zk0|apply zk1|apply zk2|apply zk3|apply zk4|apply zk5|apply zk6|apply zk7|apply zk8|apply zk9) <;> intro hc)
    |(refine callP0 rfl ?_)
    |(refine callD0 rfl ?_)
    | fail)
   exact endL rfl rfl rfl (lenB5 rfl) (lenE3 rfl)
  have d3 : decide ((w.length : Int) = 3) = true := dec_t (by omega)
  cases hv : (numV (w.drop 1)).isSome
  ·rw [nvL_none hv] at hN ⊢
   rw [hv] at hN
   dsimp only [Option.getD_none,Option.isSome_none]
   clear hh e1 hkw hv h3
   refine srun_sound 300 _ _ _ _ ?_
   repeat' (first
    | (simp -implicitDefEqProofs only [*,Int.le_refl,frStrs,frI,List.map_nil,List.getElem?_map,Option.map_some,List.length_map,zr,Nat.reduceAdd,Nat.reduceSub,Nat.reduceMul,Nat.reduceLT,Nat.reduceLeDiff,Nat.reduceEqDiff,Nat.reduceBEq,reduceIte,reduceCtorEq,Int.reduceLE,Int.reduceLT,Int.reduceToNat,Int.reduceEq,Int.reduceNe])
    | ((first|apply zk0|apply zk1|apply zk2|apply zk3|apply zk4|apply zk5|apply zk6|apply zk7|apply zk8|apply zk9) <;> intro hc)
    |(refine callP0 rfl ?_)
    |(refine callD0 rfl ?_)
    |(refine cP (hN) ?_)
    |(refine cD (hN) ?_)
    |(refine cF (hN) ?_)
    | fail)
   exact endL rfl rfl rfl (lenB5 rfl) (lenE3 rfl)
  have h2 := nvL_some hv
  rw [List.length_drop,h3] at h2
  rw [hv] at hN
  obtain ⟨a,b,hab⟩ : ∃ a b,nvL (w.drop 1) = [a,b] := by
   match nvL (w.drop 1),h2 with
   | [a,b],_ => exact ⟨a,b,rfl⟩
  rw [hab] at hN ⊢
  clear h2 hab hh e1 hkw hv h3
  have n2 : ((2 : Nat) : Int) = 2 := rfl
  dsimp only [Option.getD_some,Option.isSome_some]
  refine srun_sound 300 _ _ _ _ ?_
  repeat' (first
   | (simp -implicitDefEqProofs only [*,Int.le_refl,frStrs,frI,List.map_nil,List.map_cons,List.length_cons,List.length_nil,List.getElem?_cons_zero,List.getElem?_cons_succ,List.getElem?_map,Option.map_some,List.length_map,addFp_wr,zr,Nat.reduceAdd,Nat.reduceSub,Nat.reduceMul,Nat.reduceLT,Nat.reduceLeDiff,Nat.reduceEqDiff,Nat.reduceBEq,reduceIte,reduceCtorEq,Int.reduceLE,Int.reduceLT,Int.reduceToNat,Int.reduceEq,Int.reduceNe])
   | ((first|apply zk0|apply zk1|apply zk2|apply zk3|apply zk4|apply zk5|apply zk6|apply zk7|apply zk8|apply zk9) <;> intro hc)
   |(refine callP0 rfl ?_)
   |(refine callD0 rfl ?_)
   |(refine cP (hN) ?_)
   |(refine cD (hN) ?_)
   |(refine cF (hN) ?_)
   | fail)
  exact endL rfl rfl rfl (lenB5 rfl) (lenE3 rfl)
 case false =>
  have hnb : ∀ r,(if w[0]? = some entryW ∧ 3 ≤ w.length then r else none) = (if k = entryW ∧ 3 ≤ w.length then r else (none : Option Cache)) := fun r => by rw [hk];simp
  have e0 : lineW (room,lease,bl,en) false w = if k = blobW ∧ w.length = 6 ∧ en.length = 0 then (match w[1]?,nvL (w.drop 2) with
   | some d,[n0,n1,n2,n3] => some (room,lease,bl ++ [(d,n0,n1,n2,n3)],en)
   | _,_ => none)
   else if k = entryW ∧ 3 ≤ w.length then (match w[1]?,nvL ((w.drop 2).take 1) with
    | some d,[n0] => some (room,lease,bl,en ++ [(d,w.drop 3,n0)])
    | _,_ => none)
   else none := by
   unfold lineW
   rw [if_neg (by rw [hh];decide),if_neg (by decide),hk]
   simp only [Option.some.injEq]
   rfl
  clear hh hnb
  by_cases hkb : k = blobW ∧ w.length = 6 ∧ en.length = 0
  case pos =>
   rw [e0,if_pos hkb]
   obtain ⟨hkb,hw6,hen⟩ := hkb
   obtain rfl : en = [] := List.eq_nil_of_length_eq_zero hen
   have dk : decide (k = (⟨#[98,108,111,98]⟩ : ByteArray)) = true := dec_t hkb
   have n6 : decide ((w.length : Int) = 6) = true := dec_t (by omega)
   have n0 : decide ((([] : List Entry).length : Int) = 0) = true := rfl
   have z0 : ((0 : Nat) : Int) = 0 := rfl
   have l1 := le_tt (show (2 : Int) ≤ w.length by omega)
   obtain ⟨d,hd⟩ := get_some (l := w) (i := 1) (by omega)
   have p1 := lt_t (show 1 < w.length by omega)
   rw [hd]
   have hN := numbersR_z (w.drop 2) (by rw [List.length_drop];omega)
   unfold frStrs at hN
   rw [List.map_drop] at hN
   clear e0 hkb hen
   cases hv : (numV (w.drop 2)).isSome
   ·rw [nvL_none hv] at hN ⊢
    rw [hv] at hN
    dsimp only [Option.getD_none,Option.isSome_none]
    clear hv hw6
    refine srun_sound 300 _ _ _ _ ?_
    repeat' (first
     | (simp -implicitDefEqProofs only [*,Int.le_refl,frStrs,frI,List.map_nil,List.getElem?_map,Option.map_some,List.length_map,zr,Nat.reduceAdd,Nat.reduceSub,Nat.reduceMul,Nat.reduceLT,Nat.reduceLeDiff,Nat.reduceEqDiff,Nat.reduceBEq,reduceIte,reduceCtorEq,Int.reduceLE,Int.reduceLT,Int.reduceToNat,Int.reduceEq,Int.reduceNe])
     | ((first|apply zk0|apply zk1|apply zk2|apply zk3|apply zk4|apply zk5|apply zk6|apply zk7|apply zk8|apply zk9) <;> intro hc)
     |(refine callP0 rfl ?_)
     |(refine callD0 rfl ?_)
     |(refine cP (hN) ?_)
     |(refine cD (hN) ?_)
     |(refine cF (hN) ?_)
     | fail)
    exact endL rfl rfl rfl (lenB5 rfl) (lenE3 rfl)
   have hl4 := nvL_some hv
   rw [List.length_drop,hw6] at hl4
   rw [hv] at hN
   obtain ⟨m0,m1,m2,m3,hab⟩ : ∃ a b c d,nvL (w.drop 2) = [a,b,c,d] := by
    match nvL (w.drop 2),hl4 with
    | [a,b,c,d],_ => exact ⟨a,b,c,d,rfl⟩
   rw [hab] at hN ⊢
   clear hv hab hl4 hw6
   dsimp only [Option.getD_some,Option.isSome_some]
   have h8 : ((bl.length + 1) * 48 ≤ 140737488355328) = True := by rw [eq_iff_iff,iff_true];omega
   have q0 : (rowF fBlob bl).length = bl.length * 5 := row_len (sz := 5) (fun _ => rfl)
   have hsn := row_snoc (enc := fBlob) (m := bl) (x := (d,m0,m1,m2,m3))
   rw [hsn,List.length_append,List.length_singleton]
   replace hsn := hide hsn
   refine srun_sound 300 _ _ _ _ ?_
   repeat' (first
    | (simp -implicitDefEqProofs only [*,Int.le_refl,frStrs,frI,List.map_nil,List.map_cons,List.length_cons,List.length_nil,List.getElem?_cons_zero,List.getElem?_cons_succ,List.getElem?_map,Option.map_some,List.length_map,addFp_wr,zr,Nat.reduceAdd,Nat.reduceSub,Nat.reduceMul,Nat.reduceLT,Nat.reduceLeDiff,Nat.reduceEqDiff,Nat.reduceBEq,reduceIte,reduceCtorEq,Int.reduceLE,Int.reduceLT,Int.reduceToNat,Int.reduceEq,Int.reduceNe])
    | ((first|apply zk0|apply zk1|apply zk2|apply zk3|apply zk4|apply zk5|apply zk6|apply zk7|apply zk8|apply zk9) <;> intro hc)
    |(refine callP0 rfl ?_)
    |(refine callD0 rfl ?_)
    |(refine cP (hN) ?_)
    |(refine cD (hN) ?_)
    |(refine cF (hN) ?_)
    | fail)
   exact endL rfl (by rw [List.map_append];rfl) rfl (by rw [List.length_append,q0,Nat.add_mul];exact Nat.le_refl _) (lenE3 rfl)
  rw [e0,if_neg hkb]
  by_cases hke : k = entryW ∧ 3 ≤ w.length
  case pos =>
   rw [if_pos hke]
   clear e0
   obtain ⟨hke,hw3⟩ := hke
   have dkb : decide (k = (⟨#[98,108,111,98]⟩ : ByteArray)) = false := dec_f (by rw [hke];decide)
   have dke : decide (k = (⟨#[101,110,116,114,121]⟩ : ByteArray)) = true := dec_t hke
   have n3 : decide ((3 : Int) ≤ w.length) = true := dec_t (by omega)
   have n3' : decide ((w.length : Int) ≥ 3) = true := dec_t (by omega)
   have l1 := le_tt (show (2 : Int) ≤ w.length by omega)
   have l3 := le_tt (show (3 : Int) ≤ w.length by omega)
   obtain ⟨d,hd⟩ := get_some (l := w) (i := 1) (by omega)
   have p1 := lt_t (show 1 < w.length by omega)
   rw [hd]
   have e21 : List.drop 2 (List.take 3 (w.map fun s => [FV.str s])) = List.take 1 (List.drop 2 (w.map fun s => [FV.str s])) := by rw [List.drop_take]
   have hN := numbersR_z ((w.drop 2).take 1) (by rw [List.length_take];omega)
   unfold frStrs at hN
   rw [List.map_take,List.map_drop,← e21] at hN
   clear hke hkb e21
   cases hv : (numV ((w.drop 2).take 1)).isSome
   ·rw [nvL_none hv] at hN ⊢
    rw [hv] at hN
    dsimp only [Option.getD_none,Option.isSome_none]
    clear hv hw3
    refine srun_sound 300 _ _ _ _ ?_
    repeat' (first
     | (simp -implicitDefEqProofs only [*,Int.le_refl,frStrs,frI,List.map_nil,List.getElem?_map,Option.map_some,List.length_map,zr,Nat.reduceAdd,Nat.reduceSub,Nat.reduceMul,Nat.reduceLT,Nat.reduceLeDiff,Nat.reduceEqDiff,Nat.reduceBEq,reduceIte,reduceCtorEq,Int.reduceLE,Int.reduceLT,Int.reduceToNat,Int.reduceEq,Int.reduceNe])
     | ((first|apply zk0|apply zk1|apply zk2|apply zk3|apply zk4|apply zk5|apply zk6|apply zk7|apply zk8|apply zk9) <;> intro hc)
     |(refine callP0 rfl ?_)
     |(refine callD0 rfl ?_)
     |(refine cP (hN) ?_)
     |(refine cD (hN) ?_)
     |(refine cF (hN) ?_)
     | fail)
    exact endL rfl rfl rfl (lenB5 rfl) (lenE3 rfl)
   have hl4 := nvL_some hv
   rw [List.length_take,List.length_drop,show min 1 (w.length - 2) = 1 by omega] at hl4
   rw [hv] at hN
   obtain ⟨m0,hab⟩ : ∃ a,nvL ((w.drop 2).take 1) = [a] := by
    match nvL ((w.drop 2).take 1),hl4 with
    | [a],_ => exact ⟨a,rfl⟩
   rw [hab] at hN ⊢
   clear hv hab hl4 hw3
   dsimp only [Option.getD_some,Option.isSome_some]
   have h8 : ((en.length + 1) * 48 ≤ 140737488355328) = True := by rw [eq_iff_iff,iff_true];omega
   have q0 : (rowF fEntry en).length = en.length * 3 := row_len (sz := 3) (fun _ => rfl)
   have hsn := row_snoc (enc := fEntry) (m := en) (x := (d,w.drop 3,m0))
   rw [hsn,List.length_append,List.length_singleton]
   replace hsn := hide hsn
   refine srun_sound 300 _ _ _ _ ?_
   repeat' (first
    | (simp -implicitDefEqProofs only [*,Int.le_refl,frStrs,frI,List.map_nil,List.map_cons,List.length_cons,List.length_nil,List.getElem?_cons_zero,List.getElem?_cons_succ,List.getElem?_map,Option.map_some,List.length_map,addFp_wr,zr,Nat.reduceAdd,Nat.reduceSub,Nat.reduceMul,Nat.reduceLT,Nat.reduceLeDiff,Nat.reduceEqDiff,Nat.reduceBEq,reduceIte,reduceCtorEq,Int.reduceLE,Int.reduceLT,Int.reduceToNat,Int.reduceEq,Int.reduceNe])
    | ((first|apply zk0|apply zk1|apply zk2|apply zk3|apply zk4|apply zk5|apply zk6|apply zk7|apply zk8|apply zk9) <;> intro hc)
    |(refine callP0 rfl ?_)
    |(refine callD0 rfl ?_)
    |(refine cP (hN) ?_)
    |(refine cD (hN) ?_)
    |(refine cF (hN) ?_)
    | fail)
   exact endL rfl rfl (by
    rw [List.map_append]
    show _ = some (_ ++ [_,AV.f (.fr 1 ((w.drop 3).map fun s => [FV.str s])),_])
    rw [List.map_drop];rfl) (lenB5 rfl) (by rw [List.length_append,q0,Nat.add_mul];exact Nat.le_refl _)
  rw [if_neg hke]
  dsimp only [Option.getD_none,Option.isSome_none]
  clear e0 tk
  by_cases kb : k = blobW
  ·have dkb : decide (k = (⟨#[98,108,111,98]⟩ : ByteArray)) = true := dec_t kb
   have dke : decide (k = (⟨#[101,110,116,114,121]⟩ : ByteArray)) = false := dec_f (by rw [kb];decide)
   by_cases h6 : w.length = 6
   ·have d6 : decide ((w.length : Int) = 6) = true := dec_t (by omega)
    have de : decide ((en.length : Int) = 0) = false := dec_f (fun e => hkb ⟨kb,h6,by omega⟩)
    clear hkb hke kb h6
    refine srun_sound 300 _ _ _ _ ?_
    repeat' (first
     | (simp -implicitDefEqProofs only [*,Int.le_refl,frStrs,List.getElem?_map,Option.map_some,List.length_map,zr,Nat.reduceAdd,Nat.reduceSub,Nat.reduceMul,Nat.reduceLT,Nat.reduceLeDiff,Nat.reduceEqDiff,Nat.reduceBEq,reduceIte,reduceCtorEq,Int.reduceLE,Int.reduceLT,Int.reduceToNat,Int.reduceEq,Int.reduceNe])
     | ((first|apply zk0|apply zk1|apply zk2|apply zk3|apply zk4|apply zk5|apply zk6|apply zk7|apply zk8|apply zk9) <;> intro hc)
     |(refine callP0 rfl ?_)
     |(refine callD0 rfl ?_)
     | fail)
    exact endL rfl rfl rfl (lenB5 rfl) (lenE3 rfl)
   ·have d6 : decide ((w.length : Int) = 6) = false := dec_f (by omega)
    clear hkb hke kb h6
    refine srun_sound 300 _ _ _ _ ?_
    repeat' (first
     | (simp -implicitDefEqProofs only [*,Int.le_refl,frStrs,List.getElem?_map,Option.map_some,List.length_map,zr,Nat.reduceAdd,Nat.reduceSub,Nat.reduceMul,Nat.reduceLT,Nat.reduceLeDiff,Nat.reduceEqDiff,Nat.reduceBEq,reduceIte,reduceCtorEq,Int.reduceLE,Int.reduceLT,Int.reduceToNat,Int.reduceEq,Int.reduceNe])
     | ((first|apply zk0|apply zk1|apply zk2|apply zk3|apply zk4|apply zk5|apply zk6|apply zk7|apply zk8|apply zk9) <;> intro hc)
     |(refine callP0 rfl ?_)
     |(refine callD0 rfl ?_)
     | fail)
    exact endL rfl rfl rfl (lenB5 rfl) (lenE3 rfl)
  ·have dkb : decide (k = (⟨#[98,108,111,98]⟩ : ByteArray)) = false := dec_f kb
   by_cases ke : k = entryW
   ·have dke : decide (k = (⟨#[101,110,116,114,121]⟩ : ByteArray)) = true := dec_t ke
    have d3 : decide ((w.length : Int) ≥ 3) = false := dec_f (fun e => hke ⟨ke,by omega⟩)
    have d3' : decide ((3 : Int) ≤ w.length) = false := d3
    clear hkb hke kb ke
    refine srun_sound 300 _ _ _ _ ?_
    repeat' (first
     | (simp -implicitDefEqProofs only [*,Int.le_refl,frStrs,List.getElem?_map,Option.map_some,List.length_map,zr,Nat.reduceAdd,Nat.reduceSub,Nat.reduceMul,Nat.reduceLT,Nat.reduceLeDiff,Nat.reduceEqDiff,Nat.reduceBEq,reduceIte,reduceCtorEq,Int.reduceLE,Int.reduceLT,Int.reduceToNat,Int.reduceEq,Int.reduceNe])
     | ((first|apply zk0|apply zk1|apply zk2|apply zk3|apply zk4|apply zk5|apply zk6|apply zk7|apply zk8|apply zk9) <;> intro hc)
     |(refine callP0 rfl ?_)
     |(refine callD0 rfl ?_)
     | fail)
    exact endL rfl rfl rfl (lenB5 rfl) (lenE3 rfl)
   ·have dke : decide (k = (⟨#[101,110,116,114,121]⟩ : ByteArray)) = false := dec_f ke
    clear hkb hke kb ke
    refine srun_sound 300 _ _ _ _ ?_
    repeat' (first
     | (simp -implicitDefEqProofs only [*,Int.le_refl,frStrs,List.getElem?_map,Option.map_some,List.length_map,zr,Nat.reduceAdd,Nat.reduceSub,Nat.reduceMul,Nat.reduceLT,Nat.reduceLeDiff,Nat.reduceEqDiff,Nat.reduceBEq,reduceIte,reduceCtorEq,Int.reduceLE,Int.reduceLT,Int.reduceToNat,Int.reduceEq,Int.reduceNe])
     | ((first|apply zk0|apply zk1|apply zk2|apply zk3|apply zk4|apply zk5|apply zk6|apply zk7|apply zk8|apply zk9) <;> intro hc)
     |(refine callP0 rfl ?_)
     |(refine callD0 rfl ?_)
     | fail)
    exact endL rfl rfl rfl (lenB5 rfl) (lenE3 rfl)
end Go.Proofs.YthniagdphhcnkaaGreatDoor
