/-
  What is sent of a content. No statement of the seat is proved here; no conditions.
-/
import Derived.Test.YtjacnfjlocajoaaDoorRdg
namespace Go.Proofs.YtjacnfjlocajoaaDoor
open Go.RowKit Go.Shelf
set_option linter.unusedVariables false
set_option linter.unusedSimpArgs false
set_option maxRecDepth 100000

def ckC (t : ByteArray) (b : List UInt8) : Int := if isDig t = false then 3 else if 100000 < (b.length : Int) then 2 else 0
theorem checkContent_f (t : ByteArray) (b : List UInt8) : FRet Tryd.prog 32 [.f (.str t),.f (frB b)] [.c (.v (.int .i64 (ckC t b)))] := by
 have kI := isDigest_f t
 unfold ckC
 generalize isDig t = dg at *
 refine FCall.of_ax low_wire_checkContent ?_
 dsimp only [l_wire_checkContent]
 refine srun_sound 300 _ _ _ _ ?_
 cases dg with
 | false =>
  repeat' (first
   | (simp -implicitDefEqProofs only [*,zr,Nat.reduceAdd,Nat.reduceSub,Nat.reduceMul,Nat.reduceLT,Nat.reduceLeDiff,Nat.reduceEqDiff,Nat.reduceBEq,reduceIte,reduceCtorEq,Int.reduceLE,Int.reduceLT,Int.reduceToNat,Int.reduceEq,Int.reduceNe])
   | ((first|apply zk0|apply zk1|apply zk2|apply zk3|apply zk4|apply zk5|apply zk6|apply zk7|apply zk8|apply zk9) <;> intro hc)
   |(refine callP0 rfl ?_)
   |(refine callD0 rfl ?_)
   |(refine cP (kI) ?_)
   |(refine cD (kI) ?_)
   |(refine cF (kI) ?_)
   |(refine cO (kI) ?_)
   | fail)
  exact ret_v
 | true =>
  rw [if_neg (by decide)]
  by_cases h : 100000 < (b.length : Int)
  ·rw [if_pos h]
   have d1 : decide ((b.length : Int) > 100000) = true := dcT h
   have d2 : decide (100000 < (b.length : Int)) = true := dcT h
   repeat' (first
    | (simp -implicitDefEqProofs only [*,frB,List.length_map,zr,Nat.reduceAdd,Nat.reduceSub,Nat.reduceMul,Nat.reduceLT,Nat.reduceLeDiff,Nat.reduceEqDiff,Nat.reduceBEq,reduceIte,reduceCtorEq,Int.reduceLE,Int.reduceLT,Int.reduceToNat,Int.reduceEq,Int.reduceNe])
    | ((first|apply zk0|apply zk1|apply zk2|apply zk3|apply zk4|apply zk5|apply zk6|apply zk7|apply zk8|apply zk9) <;> intro hc)
    |(refine callP0 rfl ?_)
    |(refine callD0 rfl ?_)
    |(refine cP (kI) ?_)
    |(refine cD (kI) ?_)
    |(refine cF (kI) ?_)
    |(refine cO (kI) ?_)
    | fail)
   exact ret_v
  ·rw [if_neg h]
   have d1 : decide ((b.length : Int) > 100000) = false := dcF h
   have d2 : decide (100000 < (b.length : Int)) = false := dcF h
   repeat' (first
    | (simp -implicitDefEqProofs only [*,frB,List.length_map,zr,Nat.reduceAdd,Nat.reduceSub,Nat.reduceMul,Nat.reduceLT,Nat.reduceLeDiff,Nat.reduceEqDiff,Nat.reduceBEq,reduceIte,reduceCtorEq,Int.reduceLE,Int.reduceLT,Int.reduceToNat,Int.reduceEq,Int.reduceNe])
    | ((first|apply zk0|apply zk1|apply zk2|apply zk3|apply zk4|apply zk5|apply zk6|apply zk7|apply zk8|apply zk9) <;> intro hc)
    |(refine callP0 rfl ?_)
    |(refine callD0 rfl ?_)
    |(refine cP (kI) ?_)
    |(refine cD (kI) ?_)
    |(refine cF (kI) ?_)
    |(refine cO (kI) ?_)
    | fail)
   exact ret_v
def dMsg (t : ByteArray) (b : List UInt8) (f most : Nat) : Mg := (2,t,f,0,(b.drop f).take most)
theorem dataFrom_f (t : ByteArray) (b : List UInt8) (f most : Nat) (hf : f ≤ b.length) (hm : most ≤ 65536) (hb : b.length ≤ 100000) :
  FRet Tryd.prog 33 [.f (.str t),.f (frB b),.f (.int .i64 f),.f (.int .i64 most)] [.agg ((fMg (dMsg t b f most)).map .v)] := by
 have k := cloneY_z ((b.drop f).take most) (by rw [List.length_take];omega)
 have h1 : IntKind.i64.wrap ((f : Int) + (most : Int)) = ((f + most : Nat) : Int) := by rw [wrap64] <;> omega
 have h2 : min ((f + most : Nat) : Int) ((b.length : Nat) : Int) = ((min (f + most) b.length : Nat) : Int) := by omega
 have e1 : List.drop f (List.take (min (f + most) b.length) (List.map encU b)) = ((b.drop f).take most).map encU := by
  rw [List.map_take,List.map_drop]
  refine List.ext_getElem? fun i => ?_
  rw [List.getElem?_drop,List.getElem?_take,List.getElem?_take,List.getElem?_drop]
  by_cases hi : i < most
  ·rw [if_pos hi]
   by_cases h3 : f + i < min (f + most) b.length
   ·rw [if_pos h3]
   ·rw [if_neg h3,List.getElem?_eq_none (by rw [List.length_map];omega)]
  ·rw [if_neg hi,if_neg (by omega)]
 refine FCall.of_ax low_wire_dataFrom ?_
 dsimp only [l_wire_dataFrom,frB,dMsg,fMg,List.map] at k ⊢
 refine srun_sound 300 _ _ _ _ ?_
 generalize (b.drop f).take most = C at *
 have g1 : ((f : Int) ≤ ((min (f + most) b.length : Nat) : Int)) = True := by rw [eq_iff_iff,iff_true];omega
 have g2 : (((min (f + most) b.length : Nat) : Int) ≤ (b.length : Int)) = True := by rw [eq_iff_iff,iff_true];omega
 repeat' (first
  | (simp -implicitDefEqProofs only [*,List.length_map,zr,Nat.reduceAdd,Nat.reduceSub,Nat.reduceMul,Nat.reduceLT,Nat.reduceLeDiff,Nat.reduceEqDiff,Nat.reduceBEq,reduceIte,reduceCtorEq,Int.reduceLE,Int.reduceLT,Int.reduceToNat,Int.reduceEq,Int.reduceNe])
  | ((first|apply zk0|apply zk1|apply zk2|apply zk3|apply zk4|apply zk5|apply zk6|apply zk7|apply zk8|apply zk9) <;> intro hc)
  |(refine callP0 rfl ?_)
  |(refine callD0 rfl ?_)
  |(refine cP (k) ?_)
  |(refine cD (k) ?_)
  |(refine cF (k) ?_)
  |(refine cO (k) ?_)
  | fail)
 exact ⟨[.agg [.f (.int .i64 2),.f (.str t),.f (.int .i64 f),.f (.int .i64 0),.f (.fr 1 (List.map encU C))]],rfl,⟨⟨rfl,rfl,rfl,rfl,rfl,rfl⟩,rfl⟩,List.nodup_nil⟩
def nCh (x m : Nat) : Nat := (x + m - 1) / m
theorem nCh_lt {x m s : Nat} (hm : 1 ≤ m) : s < nCh x m ↔ s * m < x := by
 unfold nCh
 show s + 1 ≤ _ ↔ _
 rw [Nat.le_div_iff_mul_le (by omega),Nat.add_mul]
 omega
def msgTo (t : ByteArray) (b : List UInt8) (f m s : Nat) : List Mg := (1,t,0,b.length,[]) :: (List.range s).map fun i => dMsg t b (f + i * m) m
theorem msgTo_succ {t : ByteArray} {b : List UInt8} {f m s : Nat} : msgTo t b f m (s + 1) = msgTo t b f m s ++ [dMsg t b (f + s * m) m] := by
 unfold msgTo
 rw [List.range_succ,List.map_append];rfl
theorem msgTo_len {t : ByteArray} {b : List UInt8} {f m s : Nat} : (msgTo t b f m s).length = s + 1 := by
 unfold msgTo
 rw [List.length_cons,List.length_map,List.length_range]
theorem rowF_snoc {α : Type} {enc : α → List FV} {l : List α} {x : α} : rowF enc (l ++ [x]) = rowF enc l ++ enc x := by
 unfold rowF
 rw [List.map_append,List.flatten_append];simp
theorem Messages_f (t : ByteArray) (b : List UInt8) (f m : Nat) (ht : isDig t = true) (hb : b.length ≤ 100000) (hf : f ≤ b.length) (hm : 1 ≤ m ∧ m ≤ 65536) :
  FRet Tryd.prog 16 [.f (.str t),.f (frB b),.f (.int .i64 f),.f (.int .i64 m)] [.c (.own 5 (nCh (b.length - f) m + 1) (rowF fMg (msgTo t b f m (nCh (b.length - f) m)))),.c (.v (.int .i64 0))] := by
 have kC := checkContent_f t b
 rw [show ckC t b = 0 by unfold ckC;rw [if_neg (by rw [ht];decide),if_neg (by omega)]] at kC
 have k1 := within_f f 0 b.length
 rw [show inRg f 0 b.length = true by unfold inRg;simp;omega] at k1
 have k2 := within_f m 1 65536
 rw [show inRg m 1 65536 = true by unfold inRg;simp;omega] at k2
 obtain ⟨N,hN⟩ : ∃ N,nCh (b.length - f) m = N := ⟨_,rfl⟩
 have hlt := fun s => nCh_lt (x := b.length - f) (m := m) (s := s) hm.1
 rw [hN] at hlt ⊢
 have hLT := hide hlt
 clear hlt
 refine FCall.of_ax low_wire_Messages ?_
 dsimp only [l_wire_Messages,frB] at kC ⊢
 refine srun_sound 300 _ _ _ _ ?_
 repeat' (first
  | (simp -implicitDefEqProofs only [*,List.length_map,zr,Nat.reduceAdd,Nat.reduceSub,Nat.reduceMul,Nat.reduceLT,Nat.reduceLeDiff,Nat.reduceEqDiff,Nat.reduceBEq,reduceIte,reduceCtorEq,Int.reduceLE,Int.reduceLT,Int.reduceToNat,Int.reduceEq,Int.reduceNe])
  | ((first|apply zk0|apply zk1|apply zk2|apply zk3|apply zk4|apply zk5|apply zk6|apply zk7|apply zk8|apply zk9) <;> intro hc)
  |(refine callP0 rfl ?_)
  |(refine callD0 rfl ?_)
  |(refine cP (kC) ?_)
  |(refine cD (kC) ?_)
  |(refine cF (kC) ?_)
  |(refine cO (kC) ?_)
  |(refine cP (k1) ?_)
  |(refine cD (k1) ?_)
  |(refine cF (k1) ?_)
  |(refine cO (k1) ?_)
  |(refine cP (k2) ?_)
  |(refine cD (k2) ?_)
  |(refine cF (k2) ?_)
  |(refine cO (k2) ?_)
  | fail)
 refine ax_loopU (S := Nat) 49 [0,1,3] [] (fun s => [(2,.f (.int .i64 ((f + s * m : Nat) : Int))),(11,.sl 32 1 5 0 (s + 1))]) (fun s => [(32,1,AObj.cells ((rowF fMg (msgTo t b f m s)).map .f))]) (fun s => s ≤ N) (fun s => N - s) (0) [] ?_ ?_ fun s hs => ?_
 ·exact Nat.zero_le _
 ·refine wk_i ?_ ?_ <;> simp only [Nat.zero_mul,Nat.add_zero,zw,Nat.reduceEqDiff,Nat.reduceBEq,Nat.reduceLT,Nat.reduceLeDiff,reduceIte,reduceCtorEq]
  show SlotsOk _ _ [] _ ((fMg (1,t,0,b.length,[])).map .f)
  exact ⟨by rw [so_ff];exact .inl rfl,by rw [so_ff];exact .inl rfl,by rw [so_ff];exact .inl rfl,by rw [so_ff];exact .inl rfl,by show SlotOk _ _ [] (.f .nil) (.f (.fr 1 []));rw [so_ff];exact .inr ⟨rfl,1,rfl⟩,rfl⟩
 refine srun_sound 300 _ _ _ _ ?_
 rcases Nat.lt_or_ge s N with h | h
 ·have hs1 := (hLT.out s).1 h
  have h2 : decide (((f + s * m : Nat) : Int) < ((b.length : Nat) : Int)) = true := dcT (by omega)
  have h2' : decide (f + s * m < b.length) = true := dcT (by omega)
  have h4 : IntKind.i64.wrap (((f + s * m : Nat) : Int) + (m : Int)) = ((f + (s + 1) * m : Nat) : Int) := by rw [Nat.add_mul,wrap64] <;> omega
  have kd := dataFrom_f t b (f + s * m) m (by omega) hm.2 hb
  have hx := msgTo_succ (t := t) (b := b) (f := f) (m := m) (s := s)
  have hsn : rowF fMg (msgTo t b f m (s + 1)) = rowF fMg (msgTo t b f m s) ++ fMg (dMsg t b (f + s * m) m) := by rw [hx,rowF_snoc]
  have hll : (rowF fMg (msgTo t b f m s)).length = (s + 1) * 5 := by rw [row_len (sz := 5) (fun _ => rfl),msgTo_len]
  have hsN : s ≤ 100000 := by
   have : s * 1 ≤ s * m := Nat.mul_le_mul_left _ hm.1
   omega
  have h8 : ((s + 1 + 1) * 64 ≤ 140737488355328) = True := by rw [eq_iff_iff,iff_true];omega
  generalize dMsg t b (f + s * m) m = d at *
  generalize rowF fMg (msgTo t b f m s) = C at *
  obtain ⟨d1,d2,d3,d4,d5⟩ := d
  dsimp only [fMg,List.map,frB] at kd hsn
  replace hsn := hide hsn
  replace hx := hide hx
  repeat' (first
   | (simp -implicitDefEqProofs only [*,List.length_map,zr,Nat.reduceAdd,Nat.reduceSub,Nat.reduceMul,Nat.reduceLT,Nat.reduceLeDiff,Nat.reduceEqDiff,Nat.reduceBEq,reduceIte,reduceCtorEq,Int.reduceLE,Int.reduceLT,Int.reduceToNat,Int.reduceEq,Int.reduceNe])
   | ((first|apply zk0|apply zk1|apply zk2|apply zk3|apply zk4|apply zk5|apply zk6|apply zk7|apply zk8|apply zk9) <;> intro hc)
   |(refine callP0 rfl ?_)
   |(refine callD0 rfl ?_)
   |(refine cP (kd) ?_)
   |(refine cD (kd) ?_)
   |(refine cF (kd) ?_)
   |(refine cO (kd) ?_)
   | fail)
  refine ⟨s + 1,h,by omega,?_⟩
  rw [hsn.out]
  refine wk_i ?_ ?_ <;> simp only [zw,Nat.reduceEqDiff,Nat.reduceBEq,Nat.reduceLT,Nat.reduceLeDiff,reduceIte,reduceCtorEq]
  exact SlotsOk.of_eq (by rw [List.map_append];rfl)
 ·obtain rfl : s = N := by omega
  have hs1 : ¬ s * m < b.length - f := fun hh => Nat.lt_irrefl _ ((hLT.out s).2 hh)
  have h2 : decide (((f + s * m : Nat) : Int) < ((b.length : Nat) : Int)) = false := dcF (by omega)
  have h2' : decide (f + s * m < b.length) = false := dcF (by omega)
  repeat' (first
   | (simp -implicitDefEqProofs only [*,List.length_map,zr,Nat.reduceAdd,Nat.reduceSub,Nat.reduceMul,Nat.reduceLT,Nat.reduceLeDiff,Nat.reduceEqDiff,Nat.reduceBEq,reduceIte,reduceCtorEq,Int.reduceLE,Int.reduceLT,Int.reduceToNat,Int.reduceEq,Int.reduceNe])
   | ((first|apply zk0|apply zk1|apply zk2|apply zk3|apply zk4|apply zk5|apply zk6|apply zk7|apply zk8|apply zk9) <;> intro hc)
   |(refine callP0 rfl ?_)
   |(refine callD0 rfl ?_)
   | fail)
  exact ret_ov rfl (by rw [row_len (sz := 5) (fun _ => rfl),msgTo_len];exact Nat.le_refl _) rfl
theorem Messages_z (t : ByteArray) (b : List UInt8) (f m : Nat) (ht : isDig t = true) (hb : b.length ≤ 100000) (hf : f ≤ b.length) (hm : 1 ≤ m ∧ m ≤ 65536) :
  FRet Tryd.prog 16 [.f (.str t),.f (frB b),.f (.int .i64 f),.f (.int .i64 m)] [.c (.v (.fr 5 ((msgTo t b f m (nCh (b.length - f) m)).map fMg))),.c (.v (.int .i64 0))] := by
 have k := Messages_f t b f m ht hb hf hm
 generalize hl : nCh (b.length - f) m = N at *
 have e : N + 1 = (msgTo t b f m N).length := msgTo_len.symm
 rw [e] at k
 exact k.frz2 ⟨rcF_row0 (enc := fMg) (fun _ => rfl),rfl,trivial⟩
theorem Messages_e (t : ByteArray) (b : List UInt8) (f m : Int) (ht : isDig t = true) (hb : 100000 < b.length) :
  FRet Tryd.prog 16 [.f (.str t),.f (frB b),.f (.int .i64 f),.f (.int .i64 m)] [.c (.own 5 0 []),.c (.v (.int .i64 2))] := by
 have kC := checkContent_f t b
 rw [show ckC t b = 2 by unfold ckC;rw [if_neg (by rw [ht];decide),if_pos (by omega)]] at kC
 refine FCall.of_ax low_wire_Messages ?_
 dsimp only [l_wire_Messages,frB] at kC ⊢
 refine srun_sound 300 _ _ _ _ ?_
 repeat' (first
  | (simp -implicitDefEqProofs only [*,List.length_map,zr,Nat.reduceAdd,Nat.reduceSub,Nat.reduceMul,Nat.reduceLT,Nat.reduceLeDiff,Nat.reduceEqDiff,Nat.reduceBEq,reduceIte,reduceCtorEq,Int.reduceLE,Int.reduceLT,Int.reduceToNat,Int.reduceEq,Int.reduceNe])
  | ((first|apply zk0|apply zk1|apply zk2|apply zk3|apply zk4|apply zk5|apply zk6|apply zk7|apply zk8|apply zk9) <;> intro hc)
  |(refine callP0 rfl ?_)
  |(refine callD0 rfl ?_)
  |(refine cP (kC) ?_)
  |(refine cD (kC) ?_)
  |(refine cF (kC) ?_)
  |(refine cO (kC) ?_)
  | fail)
 exact ret_onv rfl rfl rfl
end Go.Proofs.YtjacnfjlocajoaaDoor
