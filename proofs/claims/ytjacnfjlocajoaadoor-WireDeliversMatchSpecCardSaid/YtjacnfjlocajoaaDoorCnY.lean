/-
  slices.Concat at bytes; contracts whose results are read as frozen ones, whichever way they were made. No statement of the seat is proved here; no conditions.
-/
import Derived.Test.YtjacnfjlocajoaaDoorGrw
import Derived.Test.YtjacnfjlocajoaaDoorWr2
import Derived.Test.YtjacnfjlocajoaaDoorLowR
namespace Go.Proofs.YtjacnfjlocajoaaDoor
open Go.RowKit Go.Shelf
set_option linter.unusedVariables false
set_option linter.unusedSimpArgs false
set_option maxRecDepth 100000

def catN {α : Type} (xs ys : List α) (s : Nat) : List α := if s = 0 then [] else if s = 1 then xs else xs ++ ys
theorem room_app {α : Type} {enc : α → List FV} {sz : Nat} (hs : ∀ x,(enc x).length = sz) (M l : List α) (Z : List FV) (N : Nat) (hZ : Z.length = N * sz) (hf : M.length + l.length ≤ N) :
  splice ((rowF enc M ++ Z.drop (M.length * sz)).map AV.f) ((0 + M.length) * sz) (((l.map enc).flatten).map AV.f) = (rowF enc (M ++ l) ++ Z.drop ((M ++ l).length * sz)).map AV.f := by
 have e0 : Z.drop ((M ++ l).length * sz) = (Z.drop (M.length * sz)).drop (l.length * sz) := by rw [List.drop_drop,List.length_append,Nat.add_mul]
 have e1 := (List.take_append_drop (l.length * sz) (Z.drop (M.length * sz))).symm
 have e2 : M.length * sz = ((rowF enc M).map AV.f).length := by rw [List.length_map,row_len hs]
 have e3 : ((l.map enc).flatten) = rowF enc l := rfl
 have e4 : (M.length + l.length) * sz ≤ N * sz := Nat.mul_le_mul_right _ hf
 rw [Nat.add_mul] at e4
 rw [e0,e3]
 conv => lhs;rw [e1]
 rw [List.map_append,List.map_append,Nat.zero_add,e2,splice_mid _ _ _ _ (by simp only [List.length_map,List.length_take,List.length_drop,row_len hs];omega),← e2]
 rw [row_app,List.map_append,List.map_append,List.append_assoc]

set_option maxHeartbeats 2000000 in
theorem growY_0 : FRet Tryd.prog 89 [.f .nil,.f (.int .i64 0)] [.c (.v .nil)] := by
 have d0 : decide ((0 : Int) < 0) = false := rfl
 have hw : IntKind.i64.wrap ((0 : Int) - IntKind.i64.wrap (0 - 0)) = 0 := rfl
 refine FCall.of_ax low_slices_Grow_byte_byte ?_
 dsimp only [l_slices_Grow_byte_byte]
 refine srun_sound 300 _ _ _ _ ?_
 repeat' (first
  | (simp -implicitDefEqProofs only [*,zr,Nat.reduceAdd,Nat.reduceSub,Nat.reduceMul,Nat.reduceLT,Nat.reduceLeDiff,Nat.reduceEqDiff,Nat.reduceBEq,reduceIte,reduceCtorEq,Int.reduceLE,Int.reduceLT,Int.reduceToNat,Int.reduceEq,Int.reduceNe])
  | ((first|apply zk0|apply zk1|apply zk2|apply zk3|apply zk4|apply zk5|apply zk6|apply zk7|apply zk8|apply zk9) <;> intro hc)
  |(refine callP0 rfl ?_)
  |(refine callD0 rfl ?_)
  | fail)
 refine ax_cap0 rfl ?_
 refine srun_sound 300 _ _ _ _ ?_
 repeat' (first
  | (simp -implicitDefEqProofs only [*,zr,Nat.reduceAdd,Nat.reduceSub,Nat.reduceMul,Nat.reduceLT,Nat.reduceLeDiff,Nat.reduceEqDiff,Nat.reduceBEq,reduceIte,reduceCtorEq,Int.reduceLE,Int.reduceLT,Int.reduceToNat,Int.reduceEq,Int.reduceNe])
  | ((first|apply zk0|apply zk1|apply zk2|apply zk3|apply zk4|apply zk5|apply zk6|apply zk7|apply zk8|apply zk9) <;> intro hc)
  |(refine callP0 rfl ?_)
  |(refine callD0 rfl ?_)
  | fail)
 exact ret_v
set_option maxHeartbeats 2000000 in
theorem growY_f (n : Nat) (h0 : 0 < n) (hb : n * 1 ≤ 281474976710656) : FCall Tryd.prog 89 [.f .nil,.f (.int .i64 n)] H0 (RoomQ 1 n (List.replicate n [FV.int .u8 0]).flatten) := by
 have hn : (n : Int) ≤ 9223372036854775807 := by omega
 have d0 : decide ((n : Int) < 0) = false := by simp
 have d2 : decide ((0 : Int) < (n : Int)) = true := by simp;omega
 have hw : IntKind.i64.wrap ((n : Int) - IntKind.i64.wrap (0 - 0)) = n := by
  rw [show IntKind.i64.wrap ((0 : Int) - 0) = 0 from rfl,wrap64] <;> omega
 have hnl : ∀ y ∈ List.replicate n ([FV.int .u8 0] : List FV),y.length = 1 := fun y hy => by rw [List.eq_of_mem_replicate hy];rfl
 have hZ := flatten_len (sz := 1) _ hnl
 rw [List.length_replicate] at hZ
 clear hnl
 refine FCall.of_ax low_slices_Grow_byte_byte ?_
 dsimp only [l_slices_Grow_byte_byte]
 refine srun_sound 300 _ _ _ _ ?_
 repeat' (first
  | (simp -implicitDefEqProofs only [*,zr,Nat.reduceAdd,Nat.reduceSub,Nat.reduceMul,Nat.reduceLT,Nat.reduceLeDiff,Nat.reduceEqDiff,Nat.reduceBEq,reduceIte,reduceCtorEq,Int.reduceLE,Int.reduceLT,Int.reduceToNat,Int.reduceEq,Int.reduceNe])
  | ((first|apply zk0|apply zk1|apply zk2|apply zk3|apply zk4|apply zk5|apply zk6|apply zk7|apply zk8|apply zk9) <;> intro hc)
  |(refine callP0 rfl ?_)
  |(refine callD0 rfl ?_)
  | fail)
 refine ax_cap0 rfl ?_
 refine srun_sound 300 _ _ _ _ ?_
 repeat' (first
  | (simp -implicitDefEqProofs only [*,zr,Nat.reduceAdd,Nat.reduceSub,Nat.reduceMul,Nat.reduceLT,Nat.reduceLeDiff,Nat.reduceEqDiff,Nat.reduceBEq,reduceIte,reduceCtorEq,Int.reduceLE,Int.reduceLT,Int.reduceToNat,Int.reduceEq,Int.reduceNe])
  | ((first|apply zk0|apply zk1|apply zk2|apply zk3|apply zk4|apply zk5|apply zk6|apply zk7|apply zk8|apply zk9) <;> intro hc)
  |(refine callP0 rfl ?_)
  |(refine callD0 rfl ?_)
  | fail)
 refine ax_cap0 rfl ?_
 refine srun_sound 2 _ _ _ _ ?_
 repeat' (first
  | (simp -implicitDefEqProofs only [*,zr,Nat.reduceAdd,Nat.reduceSub,Nat.reduceMul,Nat.reduceLT,Nat.reduceLeDiff,Nat.reduceEqDiff,Nat.reduceBEq,reduceIte,reduceCtorEq,Int.reduceLE,Int.reduceLT,Int.reduceToNat,Int.reduceEq,Int.reduceNe])
  | ((first|apply zk0|apply zk1|apply zk2|apply zk3|apply zk4|apply zk5|apply zk6|apply zk7|apply zk8|apply zk9) <;> intro hc)
  |(refine callP0 rfl ?_)
  |(refine callD0 rfl ?_)
  | fail)
 refine ax_appN0 (m := n) 22 0 rfl rfl h0 hb hn rfl ?_
 intro gc h1 h2
 have hH : H0 22 = (0,none) := rfl
 refine srun_sound 2 _ _ _ _ ?_
 repeat' (first
  | (simp -implicitDefEqProofs only [*,zr,Nat.reduceAdd,Nat.reduceSub,Nat.reduceMul,Nat.reduceLT,Nat.reduceLeDiff,Nat.reduceEqDiff,Nat.reduceBEq,reduceIte,reduceCtorEq,Int.reduceLE,Int.reduceLT,Int.reduceToNat,Int.reduceEq,Int.reduceNe])
  | ((first|apply zk0|apply zk1|apply zk2|apply zk3|apply zk4|apply zk5|apply zk6|apply zk7|apply zk8|apply zk9) <;> intro hc)
  |(refine callP0 rfl ?_)
  |(refine callD0 rfl ?_)
  | fail)
 refine ax_slC (id := 22) (ver := 1) (off := 0) (n := n) (c := gc) 0 0 rfl (Nat.le_refl _) (Nat.zero_le _) rfl ⟨_,rfl⟩ ?_
 rw [if_pos (by omega)]
 refine srun_sound 300 _ _ _ _ ?_
 repeat' (first
  | (simp -implicitDefEqProofs only [*,zr,Nat.reduceAdd,Nat.reduceSub,Nat.reduceMul,Nat.reduceLT,Nat.reduceLeDiff,Nat.reduceEqDiff,Nat.reduceBEq,reduceIte,reduceCtorEq,Int.reduceLE,Int.reduceLT,Int.reduceToNat,Int.reduceEq,Int.reduceNe])
  | ((first|apply zk0|apply zk1|apply zk2|apply zk3|apply zk4|apply zk5|apply zk6|apply zk7|apply zk8|apply zk9) <;> intro hc)
  |(refine callP0 rfl ?_)
  |(refine callD0 rfl ?_)
  | fail)
 exact ⟨22,1,gc,rfl,h1,rfl,by omega⟩
set_option maxHeartbeats 4000000 in
theorem concatY_f (L : List (List FV)) (xs ys : List UInt8) (hL : L.length = 2) (hL0 : L[0]? = some [.fr 1 (xs.map encU)]) (hL1 : L[1]? = some [.fr 1 (ys.map encU)]) (hb : (xs.length + ys.length) * 1 ≤ 281474976710656) :
  FRet Tryd.prog 80 [.f (.fr 1 L)] [.c (.own 1 (xs ++ ys).length (rowF encU (xs ++ ys)))] := by
 have hen : ∀ x : UInt8,(encU x).length = 1 := fun _ => rfl
 have hc : ∀ s,s < 2 → ∃ l : List UInt8,L[s]? = some [.fr 1 (l.map encU)] ∧ catN xs ys (s + 1) = catN xs ys s ++ l := fun s hs => by
  rcases s with _ | _ | s
  ·exact ⟨xs,hL0,rfl⟩
  ·exact ⟨ys,hL1,rfl⟩
  ·omega
 have hle : ∀ s,s ≤ 2 → (catN xs ys s).length ≤ xs.length + ys.length := fun s hs => by
  rcases s with _ | _ | _ | s
  ·simp [catN]
  ·simp [catN]
  ·simp [catN]
  ·omega
 have hc2 : xs ++ ys = catN xs ys 2 := rfl
 have hb2 : (catN xs ys 2).length * 1 ≤ 281474976710656 := Nat.le_trans (Nat.mul_le_mul_right _ (hle 2 (Nat.le_refl _))) hb
 have hC0 : catN xs ys 0 = [] := rfl
 rw [hc2]
 clear hc2 hL0 hL1
 generalize catN xs ys = C at *
 have hLE := hide hle
 have hCC := hide hc
 clear hle hc
 have hzz : ((C 0).length : Int) = 0 := by rw [hC0];rfl
 refine FCall.of_ax low_slices_Concat_byte_byte ?_
 dsimp only [l_slices_Concat_byte_byte]
 refine srun_sound 300 _ _ _ _ ?_
 repeat' (first
  | (simp -implicitDefEqProofs only [*,zr,Nat.reduceAdd,Nat.reduceSub,Nat.reduceMul,Nat.reduceLT,Nat.reduceLeDiff,Nat.reduceEqDiff,Nat.reduceBEq,reduceIte,reduceCtorEq,Int.reduceLE,Int.reduceLT,Int.reduceToNat,Int.reduceEq,Int.reduceNe])
  | ((first|apply zk0|apply zk1|apply zk2|apply zk3|apply zk4|apply zk5|apply zk6|apply zk7|apply zk8|apply zk9) <;> intro hc)
  |(refine callP0 rfl ?_)
  |(refine callD0 rfl ?_)
  | fail)
 refine ax_loopU (S := Nat) 36 [0,9,10] [] (fun s => [(3,.f (.int .i64 ((C s).length : Nat))),(11,.f (.int .i64 s))]) (fun s => []) (fun s => s ≤ 2) (fun s => 2 - s) (0) [] ?_ ?_ fun s hs => ?_
 ·exact Nat.zero_le _
 ·refine wk_i ?_ ?_ <;> simp only [hzz,zw,Nat.reduceEqDiff,Nat.reduceBEq,Nat.reduceLT,Nat.reduceLeDiff,reduceIte,reduceCtorEq]
 refine srun_sound 300 _ _ _ _ ?_
 rcases Nat.lt_or_ge s 2 with hlt | hge
 ·obtain ⟨l,hl,hc⟩ := hCC.out s (by omega)
  have h4 := inc64 (n := 2) hlt (by omega)
  have h2 := lt_t (n := 2) hlt
  have h5 := hLE.out (s + 1) (by omega)
  have hw : IntKind.i64.wrap (((C s).length : Int) + (l.length : Int)) = ((C (s + 1)).length : Int) := by
   have : ((C (s + 1)).length : Int) = ((C s).length : Int) + (l.length : Int) := by rw [hc,List.length_append];exact Int.natCast_add _ _
   rw [this,wrap64] <;> omega
  have d0 : decide (((C (s + 1)).length : Int) < 0) = false := by simp
  clear hc h5
  repeat' (first
   | (simp -implicitDefEqProofs only [*,List.length_map,zr,Nat.reduceAdd,Nat.reduceSub,Nat.reduceMul,Nat.reduceLT,Nat.reduceLeDiff,Nat.reduceEqDiff,Nat.reduceBEq,reduceIte,reduceCtorEq,Int.reduceLE,Int.reduceLT,Int.reduceToNat,Int.reduceEq,Int.reduceNe])
   | ((first|apply zk0|apply zk1|apply zk2|apply zk3|apply zk4|apply zk5|apply zk6|apply zk7|apply zk8|apply zk9) <;> intro hc)
   |(refine callP0 rfl ?_)
   |(refine callD0 rfl ?_)
   | fail)
  refine ⟨s + 1,hlt,by omega,?_⟩
  refine wk_i ?_ ?_ <;> simp only [zw,Nat.reduceEqDiff,Nat.reduceBEq,Nat.reduceLT,Nat.reduceLeDiff,reduceIte,reduceCtorEq]
 obtain rfl : s = 2 := by omega
 have h2 : decide ((2 : Nat) < 2) = false := rfl
 clear hge
 rcases Nat.eq_zero_or_pos (C 2).length with hN | hN
 ·have hz2 : ((C 2).length : Int) = 0 := by rw [hN];rfl
  rw [hz2]
  repeat' (first
   | (simp -implicitDefEqProofs only [*,zr,Nat.reduceAdd,Nat.reduceSub,Nat.reduceMul,Nat.reduceLT,Nat.reduceLeDiff,Nat.reduceEqDiff,Nat.reduceBEq,reduceIte,reduceCtorEq,Int.reduceLE,Int.reduceLT,Int.reduceToNat,Int.reduceEq,Int.reduceNe])
   | ((first|apply zk0|apply zk1|apply zk2|apply zk3|apply zk4|apply zk5|apply zk6|apply zk7|apply zk8|apply zk9) <;> intro hc)
   |(refine callP0 rfl ?_)
   |(refine callD0 rfl ?_)
   |(refine cP (growY_0) ?_)
   |(refine cD (growY_0) ?_)
   |(refine cF (growY_0) ?_)
   |(refine cO (growY_0) ?_)
   | fail)
  refine ax_loopU (S := Nat) 36 [25,26] [] (fun s => [(6,.sl 33 1 1 0 0),(27,.f (.int .i64 s))]) (fun s => [(33,1,AObj.cells [])]) (fun s => s ≤ 2 ∧ C s = []) (fun s => 2 - s) (0) [33] ?_ ?_ fun s hs => ?_
  ·exact ⟨Nat.zero_le _,hC0⟩
  ·refine wk_i ?_ ?_ <;> simp only [zw,Nat.reduceEqDiff,Nat.reduceBEq,Nat.reduceLT,Nat.reduceLeDiff,reduceIte,reduceCtorEq]
  obtain ⟨hs2,hcs⟩ := hs
  refine srun_sound 300 _ _ _ _ ?_
  clear h2
  rcases Nat.lt_or_ge s 2 with hlt | hge
  ·obtain ⟨l,hl,hc⟩ := hCC.out s (by omega)
   have h4 := inc64 (n := 2) hlt (by omega)
   have h2 := lt_t (n := 2) hlt
   have hl0 : l = [] ∧ C (s + 1) = [] := by
    rcases s with _ | _ | s
    ·obtain ⟨l2,_,h5⟩ := hCC.out 1 (by omega)
     have h6 : (C 1).length = 0 := by rw [h5,List.length_append] at hN;omega
     rw [hc,List.length_append] at h6
     exact ⟨List.eq_nil_of_length_eq_zero (by omega),by rw [hc];exact List.eq_nil_of_length_eq_zero (by rw [List.length_append];omega)⟩
    ·have h6 := hN
     rw [hc,List.length_append] at h6
     exact ⟨List.eq_nil_of_length_eq_zero (by omega),by rw [hc];exact List.eq_nil_of_length_eq_zero (by rw [List.length_append];omega)⟩
    ·omega
   obtain ⟨rfl,hc1⟩ := hl0
   clear hc hcs
   repeat' (first
    | (simp -implicitDefEqProofs only [*,List.length_map,zr,Nat.reduceAdd,Nat.reduceSub,Nat.reduceMul,Nat.reduceLT,Nat.reduceLeDiff,Nat.reduceEqDiff,Nat.reduceBEq,reduceIte,reduceCtorEq,Int.reduceLE,Int.reduceLT,Int.reduceToNat,Int.reduceEq,Int.reduceNe])
    | ((first|apply zk0|apply zk1|apply zk2|apply zk3|apply zk4|apply zk5|apply zk6|apply zk7|apply zk8|apply zk9) <;> intro hc)
    |(refine callP0 rfl ?_)
    |(refine callD0 rfl ?_)
    | fail)
   refine ⟨s + 1,⟨hlt,hc1⟩,by omega,?_⟩
   refine wk_i ?_ ?_ <;> simp only [zw,Nat.reduceEqDiff,Nat.reduceBEq,Nat.reduceLT,Nat.reduceLeDiff,reduceIte,reduceCtorEq]
   show SlotsOk _ _ _ [] []
   rw [so_nil];trivial
  ·obtain rfl : s = 2 := by omega
   have h2 : decide ((2 : Nat) < 2) = false := rfl
   repeat' (first
    | (simp -implicitDefEqProofs only [*,zr,Nat.reduceAdd,Nat.reduceSub,Nat.reduceMul,Nat.reduceLT,Nat.reduceLeDiff,Nat.reduceEqDiff,Nat.reduceBEq,reduceIte,reduceCtorEq,Int.reduceLE,Int.reduceLT,Int.reduceToNat,Int.reduceEq,Int.reduceNe])
    | ((first|apply zk0|apply zk1|apply zk2|apply zk3|apply zk4|apply zk5|apply zk6|apply zk7|apply zk8|apply zk9) <;> intro hc)
    |(refine callP0 rfl ?_)
    |(refine callD0 rfl ?_)
    | fail)
   exact ret_o rfl (by simp)
 ·repeat' (first
   | (simp -implicitDefEqProofs only [*,zr,Nat.reduceAdd,Nat.reduceSub,Nat.reduceMul,Nat.reduceLT,Nat.reduceLeDiff,Nat.reduceEqDiff,Nat.reduceBEq,reduceIte,reduceCtorEq,Int.reduceLE,Int.reduceLT,Int.reduceToNat,Int.reduceEq,Int.reduceNe])
   | ((first|apply zk0|apply zk1|apply zk2|apply zk3|apply zk4|apply zk5|apply zk6|apply zk7|apply zk8|apply zk9) <;> intro hc)
   |(refine callP0 rfl ?_)
   |(refine callD0 rfl ?_)
   | fail)
  refine callRoom (growY_f _ hN hb2) hN rfl rfl rfl ?_
  intro gc hgc
  refine srun_sound 300 _ _ _ _ ?_
  have hZ := flatten_len (sz := 1) (List.replicate (C 2).length ([FV.int .u8 0] : List FV)) (fun y hy => by rw [List.eq_of_mem_replicate hy];rfl)
  rw [List.length_replicate] at hZ
  generalize (List.replicate (C 2).length ([FV.int .u8 0] : List FV)).flatten = Z at *
  have hC00 : (C 0).length = 0 := by rw [hC0];rfl
  repeat' (first
   | (simp -implicitDefEqProofs only [*,zr,Nat.reduceAdd,Nat.reduceSub,Nat.reduceMul,Nat.reduceLT,Nat.reduceLeDiff,Nat.reduceEqDiff,Nat.reduceBEq,reduceIte,reduceCtorEq,Int.reduceLE,Int.reduceLT,Int.reduceToNat,Int.reduceEq,Int.reduceNe])
   | ((first|apply zk0|apply zk1|apply zk2|apply zk3|apply zk4|apply zk5|apply zk6|apply zk7|apply zk8|apply zk9) <;> intro hc)
   |(refine callP0 rfl ?_)
   |(refine callD0 rfl ?_)
   | fail)
  refine ax_loop (fun m env H => ∃ s,s ≤ 2 ∧ m = 2 - s ∧ env.n = 36 ∧ env.f 6 = .slc 24 1 1 0 (C s).length gc ∧ env.f 27 = .f (.int .i64 (s : Nat)) ∧ env.f 25 = .f (.fr 1 L) ∧ env.f 26 = .f (.int .i64 ((2 : Nat) : Int)) ∧ H 24 = (1,some (.cells ((rowF encU (C s) ++ Z.drop ((C s).length * 1)).map .f)))) 2 ⟨0,by omega,rfl,rfl,by rw [hC00];rfl,rfl,rfl,rfl,by rw [hC00,hC0,row_nil,List.nil_append,Nat.zero_mul,List.drop_zero];rfl⟩ ?_
  rintro m env H ⟨s,hs2,rfl,hn,e6,e27,e25,e26,hH⟩
  obtain ⟨en,f⟩ := env
  dsimp only at hn e6 e27 e25 e26
  subst hn
  clear h2
  rcases Nat.lt_or_ge s 2 with hlt | hge
  ·obtain ⟨l,hl,hc⟩ := hCC.out s (by omega)
   have h4 := inc64 (n := 2) hlt (by omega)
   have h2 := lt_t (n := 2) hlt
   have hfit : (C s).length + l.length ≤ (C 2).length := by
    rcases s with _ | _ | s
    ·obtain ⟨l2,_,h5⟩ := hCC.out 1 (by omega)
     rw [h5,hc,List.length_append,List.length_append];omega
    ·rw [hc,List.length_append];exact Nat.le_refl _
    ·omega
   have hHC := hide hc
   clear hc
   refine srun_sound 18 _ _ _ _ ?_
   repeat' (first
    | (simp -implicitDefEqProofs only [*,List.length_map,zr,Nat.reduceAdd,Nat.reduceSub,Nat.reduceMul,Nat.reduceLT,Nat.reduceLeDiff,Nat.reduceEqDiff,Nat.reduceBEq,reduceIte,reduceCtorEq,Int.reduceLE,Int.reduceLT,Int.reduceToNat,Int.reduceEq,Int.reduceNe])
    | ((first|apply zk0|apply zk1|apply zk2|apply zk3|apply zk4|apply zk5|apply zk6|apply zk7|apply zk8|apply zk9) <;> intro hc)
    |(refine callP0 rfl ?_)
    |(refine callD0 rfl ?_)
    | fail)
   have hroom : (C s).length + (l.map encU).length ≤ gc := by rw [List.length_map];omega
   have hCl : (C (s + 1)).length = (C s).length + (l.map encU).length := by rw [hHC.out,List.length_append,List.length_map]
   have hsp := room_app hen (C s) l Z _ hZ hfit
   rw [← hHC.out] at hsp
   refine ax_appS (m := (l.map encU).length) (news := ((l.map encU).flatten).map .f) rfl rfl (show cellsOf 1 (H 24) = some _ by rw [hH];rfl) hroom (by
    simp only [List.length_map,List.length_append,row_len hen,List.length_drop,hZ,Nat.zero_add]
    omega) ?_
   rw [hsp,← hCl]
   clear hsp hroom hHC hfit hl hH hCl
   refine srun_sound 300 _ _ _ _ ?_
   repeat' (first
    | (simp -implicitDefEqProofs only [*,zr,Nat.reduceAdd,Nat.reduceSub,Nat.reduceMul,Nat.reduceLT,Nat.reduceLeDiff,Nat.reduceEqDiff,Nat.reduceBEq,reduceIte,reduceCtorEq,Int.reduceLE,Int.reduceLT,Int.reduceToNat,Int.reduceEq,Int.reduceNe])
    | ((first|apply zk0|apply zk1|apply zk2|apply zk3|apply zk4|apply zk5|apply zk6|apply zk7|apply zk8|apply zk9) <;> intro hc)
    |(refine callP0 rfl ?_)
    |(refine callD0 rfl ?_)
    | fail)
   exact ⟨2 - (s + 1),by omega,s + 1,hlt,rfl,rfl,rfl,rfl⟩
  ·obtain rfl : s = 2 := by omega
   have h2 : decide ((2 : Nat) < 2) = false := rfl
   refine ax_sl trivial 6 e6 ?_
   refine srun_sound 300 _ _ _ _ ?_
   repeat' (first
    | (simp -implicitDefEqProofs only [*,zr,Nat.reduceAdd,Nat.reduceSub,Nat.reduceMul,Nat.reduceLT,Nat.reduceLeDiff,Nat.reduceEqDiff,Nat.reduceBEq,reduceIte,reduceCtorEq,Int.reduceLE,Int.reduceLT,Int.reduceToNat,Int.reduceEq,Int.reduceNe])
    | ((first|apply zk0|apply zk1|apply zk2|apply zk3|apply zk4|apply zk5|apply zk6|apply zk7|apply zk8|apply zk9) <;> intro hc)
    |(refine callP0 rfl ?_)
    |(refine callD0 rfl ?_)
    | fail)
   refine ret_o ?_ (by rw [row_len hen];exact Nat.le_refl _)
   rw [hH,List.drop_of_length_le (by rw [hZ];exact Nat.le_refl _),List.append_nil]
   rfl

end Go.Proofs.YtjacnfjlocajoaaDoor
