/-
  The document's messages of a content, and its check of breaks. No statement of the seat is proved here; no conditions.
-/
import Derived.Test.YtjacnfjlocajoaaDoorMsP
import Derived.Test.YtjacnfjlocajoaaDoorDv3
namespace Go.Proofs.YtjacnfjlocajoaaDoor
open Go.RowKit Go.Shelf
set_option linter.unusedVariables false
set_option linter.unusedSimpArgs false
set_option maxRecDepth 100000

def ckB (l : List Int) : Int := if 100 < l.length then 2 else if l.any (fun n => !inRg n 0 20000) = true then 1 else 0
set_option maxHeartbeats 4000000 in
theorem checkBreaks_f (l : List Int) (hl : (l.length : Int) ≤ 9223372036854775807) : FRet Tryd.prog 45 [.f (frI l)] [.c (.v (.int .i64 (ckB l)))] := by
 unfold ckB
 refine FCall.of_ax low_ref8_checkBreaks ?_
 dsimp only [l_ref8_checkBreaks,frI]
 refine srun_sound 300 _ _ _ _ ?_
 by_cases h1 : 100 < l.length
 ·rw [if_pos h1]
  have d1 : decide ((l.length : Int) > 100) = true := dcT (by omega)
  have d1' : decide (100 < (l.length : Int)) = true := dcT (by omega)
  repeat' (first
   | (simp -implicitDefEqProofs only [*,List.length_map,zr,Nat.reduceAdd,Nat.reduceSub,Nat.reduceMul,Nat.reduceLT,Nat.reduceLeDiff,Nat.reduceEqDiff,Nat.reduceBEq,reduceIte,reduceCtorEq,Int.reduceLE,Int.reduceLT,Int.reduceToNat,Int.reduceEq,Int.reduceNe])
   | ((first|apply zk0|apply zk1|apply zk2|apply zk3|apply zk4|apply zk5|apply zk6|apply zk7|apply zk8|apply zk9) <;> intro hc)
   |(refine callP0 rfl ?_)
   |(refine callD0 rfl ?_)
   | fail)
  exact ret_v
 rw [if_neg h1]
 have d1 : decide ((l.length : Int) > 100) = false := dcF (by omega)
 have d1' : decide (100 < (l.length : Int)) = false := dcF (by omega)
 repeat' (first
  | (simp -implicitDefEqProofs only [*,List.length_map,zr,Nat.reduceAdd,Nat.reduceSub,Nat.reduceMul,Nat.reduceLT,Nat.reduceLeDiff,Nat.reduceEqDiff,Nat.reduceBEq,reduceIte,reduceCtorEq,Int.reduceLE,Int.reduceLT,Int.reduceToNat,Int.reduceEq,Int.reduceNe])
  | ((first|apply zk0|apply zk1|apply zk2|apply zk3|apply zk4|apply zk5|apply zk6|apply zk7|apply zk8|apply zk9) <;> intro hc)
  |(refine callP0 rfl ?_)
  |(refine callD0 rfl ?_)
  | fail)
 clear d1 d1'
 refine ax_loopU (S := Nat) 18 [8,9] [] (fun s => [(10,.f (.int .i64 s))]) (fun s => []) (fun s => s ≤ l.length ∧ ∀ k x,k < s → l[k]? = some x → inRg x 0 20000 = true) (fun s => l.length - s) (0) [] ?_ ?_ fun s hs => ?_
 ·exact ⟨Nat.zero_le _,fun k x h => absurd h (by omega)⟩
 ·refine wk_i ?_ ?_ <;> simp only [zw,Nat.reduceEqDiff,Nat.reduceBEq,Nat.reduceLT,Nat.reduceLeDiff,reduceIte,reduceCtorEq]
 obtain ⟨hi,hall⟩ := hs
 refine srun_sound 300 _ _ _ _ ?_
 have hA := hide hall
 clear hall
 rcases Nat.lt_or_ge s l.length with hlt | hge
 ·obtain ⟨x,hx⟩ := get_some hlt
  have h4 := inc64 hlt hl
  have h2 := lt_t hlt
  have k := withinR_f x 0 20000
  cases hr : inRg x 0 20000
  ·rw [hr] at k
   have he : (l.any fun n => !inRg n 0 20000) = true := List.any_eq_true.2 ⟨x,List.mem_of_getElem? hx,by rw [hr];rfl⟩
   rw [he,if_pos rfl]
   clear he
   repeat' (first
    | (simp -implicitDefEqProofs only [*,List.getElem?_map,Option.map_some,encI,zr,Nat.reduceAdd,Nat.reduceSub,Nat.reduceMul,Nat.reduceLT,Nat.reduceLeDiff,Nat.reduceEqDiff,Nat.reduceBEq,reduceIte,reduceCtorEq,Int.reduceLE,Int.reduceLT,Int.reduceToNat,Int.reduceEq,Int.reduceNe])
    | ((first|apply zk0|apply zk1|apply zk2|apply zk3|apply zk4|apply zk5|apply zk6|apply zk7|apply zk8|apply zk9) <;> intro hc)
    |(refine callP0 rfl ?_)
    |(refine callD0 rfl ?_)
    |(refine cP (k) ?_)
    |(refine cD (k) ?_)
    |(refine cF (k) ?_)
    |(refine cO (k) ?_)
    | fail)
   exact ret_v
  ·rw [hr] at k
   have hA2 : ∀ k y,k < s + 1 → l[k]? = some y → inRg y 0 20000 = true := fun k y hk hy => by
    rcases Nat.lt_succ_iff_lt_or_eq.1 hk with h1 | rfl
    ·exact hA.out k y h1 hy
    ·rw [hx] at hy;obtain rfl := Option.some.inj hy;exact hr
   replace hA2 := hide hA2
   repeat' (first
    | (simp -implicitDefEqProofs only [*,List.getElem?_map,Option.map_some,encI,zr,Nat.reduceAdd,Nat.reduceSub,Nat.reduceMul,Nat.reduceLT,Nat.reduceLeDiff,Nat.reduceEqDiff,Nat.reduceBEq,reduceIte,reduceCtorEq,Int.reduceLE,Int.reduceLT,Int.reduceToNat,Int.reduceEq,Int.reduceNe])
    | ((first|apply zk0|apply zk1|apply zk2|apply zk3|apply zk4|apply zk5|apply zk6|apply zk7|apply zk8|apply zk9) <;> intro hc)
    |(refine callP0 rfl ?_)
    |(refine callD0 rfl ?_)
    |(refine cP (k) ?_)
    |(refine cD (k) ?_)
    |(refine cF (k) ?_)
    |(refine cO (k) ?_)
    | fail)
   refine ⟨s + 1,⟨hlt,hA2.out⟩,by omega,?_⟩
   refine wk_i ?_ ?_ <;> simp only [zw,Nat.reduceEqDiff,Nat.reduceBEq,Nat.reduceLT,Nat.reduceLeDiff,reduceIte,reduceCtorEq]
 ·obtain rfl : s = l.length := by omega
  have h2 := lt_f hge
  have he : ¬ (l.any fun n => !inRg n 0 20000) = true := fun h => by
   obtain ⟨x,hx,h2⟩ := List.any_eq_true.1 h
   obtain ⟨k,hk⟩ := List.mem_iff_getElem?.1 hx
   rw [hA.out k x (List.getElem?_eq_some_iff.1 hk).1 hk] at h2
   cases h2
  rw [if_neg he]
  repeat' (first
   | (simp -implicitDefEqProofs only [*,zr,Nat.reduceAdd,Nat.reduceSub,Nat.reduceMul,Nat.reduceLT,Nat.reduceLeDiff,Nat.reduceEqDiff,Nat.reduceBEq,reduceIte,reduceCtorEq,Int.reduceLE,Int.reduceLT,Int.reduceToNat,Int.reduceEq,Int.reduceNe])
   | ((first|apply zk0|apply zk1|apply zk2|apply zk3|apply zk4|apply zk5|apply zk6|apply zk7|apply zk8|apply zk9) <;> intro hc)
   |(refine callP0 rfl ?_)
   |(refine callD0 rfl ?_)
   | fail)
  exact ret_v
set_option maxHeartbeats 4000000 in
theorem messagesR_f (t : ByteArray) (b : List UInt8) (f m : Nat) (hb : b.length ≤ 100000) (hf : f ≤ b.length) (hm : 1 ≤ m ∧ m ≤ 65536) :
  FRet Tryd.prog 65 [.f (.str t),.f (frB b),.f (.int .i64 f),.f (.int .i64 m)] [.c (.own 5 (nCh (b.length - f) m + 1) (rowF fMg (msgTo t b f m (nCh (b.length - f) m))))] := by
 obtain ⟨N,hN⟩ : ∃ N,nCh (b.length - f) m = N := ⟨_,rfl⟩
 have hlt := fun s => nCh_lt (x := b.length - f) (m := m) (s := s) hm.1
 rw [hN] at hlt ⊢
 have hLT := hide hlt
 clear hlt
 refine FCall.of_ax low_ref8_messages ?_
 dsimp only [l_ref8_messages,frB]
 refine srun_sound 300 _ _ _ _ ?_
 repeat' (first
  | (simp -implicitDefEqProofs only [*,List.length_map,zr,Nat.reduceAdd,Nat.reduceSub,Nat.reduceMul,Nat.reduceLT,Nat.reduceLeDiff,Nat.reduceEqDiff,Nat.reduceBEq,reduceIte,reduceCtorEq,Int.reduceLE,Int.reduceLT,Int.reduceToNat,Int.reduceEq,Int.reduceNe])
  | ((first|apply zk0|apply zk1|apply zk2|apply zk3|apply zk4|apply zk5|apply zk6|apply zk7|apply zk8|apply zk9) <;> intro hc)
  |(refine callP0 rfl ?_)
  |(refine callD0 rfl ?_)
  | fail)
 refine ax_loopU (S := Nat) 41 [0,1,3] [] (fun s => [(10,.f (.int .i64 ((f + s * m : Nat) : Int))),(9,.sl 15 1 5 0 (s + 1))]) (fun s => [(15,1,AObj.cells ((rowF fMg (msgTo t b f m s)).map .f))]) (fun s => s ≤ N) (fun s => N - s) (0) [] ?_ ?_ fun s hs => ?_
 ·exact Nat.zero_le _
 ·refine wk_i ?_ ?_ <;> simp only [Nat.zero_mul,Nat.add_zero,zw,Nat.reduceEqDiff,Nat.reduceBEq,Nat.reduceLT,Nat.reduceLeDiff,reduceIte,reduceCtorEq]
  show SlotsOk _ _ [] _ ((fMg (1,t,0,b.length,[])).map .f)
  exact ⟨by rw [so_ff];exact .inl rfl,by rw [so_ff];exact .inl rfl,by rw [so_ff];exact .inl rfl,by rw [so_ff];exact .inl rfl,by show SlotOk _ _ [] (.f .nil) (.f (.fr 1 []));rw [so_ff];exact .inr ⟨rfl,1,rfl⟩,rfl⟩
 refine srun_sound 300 _ _ _ _ ?_
 rcases Nat.lt_or_ge s N with h | h
 ·have hs1 := (hLT.out s).1 h
  have h2 : decide (((f + s * m : Nat) : Int) < ((b.length : Nat) : Int)) = true := dcT (by omega)
  have h2' : decide (f + s * m < b.length) = true := dcT (by omega)
  have h4 : IntKind.i64.wrap (((f + s * m : Nat) : Int) + (m : Int)) = ((f + (s + 1) * m : Nat) : Int) := by rw [Nat.add_mul,wrap64] <;> omega
  have hmn : min ((f + (s + 1) * m : Nat) : Int) ((b.length : Nat) : Int) = ((min (f + (s + 1) * m) b.length : Nat) : Int) := by omega
  have hx := msgTo_succ (t := t) (b := b) (f := f) (m := m) (s := s)
  have hsn : rowF fMg (msgTo t b f m (s + 1)) = rowF fMg (msgTo t b f m s) ++ fMg (dMsg t b (f + s * m) m) := by rw [hx,rowF_snoc]
  have hll : (rowF fMg (msgTo t b f m s)).length = (s + 1) * 5 := by rw [row_len (sz := 5) (fun _ => rfl),msgTo_len]
  have hsN : s ≤ 100000 := by
   have : s * 1 ≤ s * m := Nat.mul_le_mul_left _ hm.1
   omega
  have h8 : ((s + 1 + 1) * 64 ≤ 140737488355328) = True := by rw [eq_iff_iff,iff_true];omega
  have g1 : (((f + s * m : Nat) : Int) ≤ ((min (f + (s + 1) * m) b.length : Nat) : Int)) = True := by rw [eq_iff_iff,iff_true,Nat.add_mul];omega
  have g2 : (((min (f + (s + 1) * m) b.length : Nat) : Int) ≤ (b.length : Int)) = True := by rw [eq_iff_iff,iff_true];omega
  have e1 : List.drop (f + s * m) (List.take (min (f + (s + 1) * m) b.length) (List.map encU b)) = ((b.drop (f + s * m)).take m).map encU := by
   rw [List.map_take,List.map_drop]
   refine List.ext_getElem? fun i => ?_
   rw [List.getElem?_drop,List.getElem?_take,List.getElem?_take,List.getElem?_drop]
   rw [Nat.add_mul,Nat.one_mul]
   by_cases hi : i < m
   ·rw [if_pos hi]
    by_cases h3 : f + s * m + i < min (f + (s * m + m)) b.length
    ·rw [if_pos h3]
    ·rw [if_neg h3,List.getElem?_eq_none (by rw [List.length_map];omega)]
   ·rw [if_neg hi,if_neg (by omega)]
  have k := cloneY_z ((b.drop (f + s * m)).take m) (by rw [List.length_take];omega)
  unfold dMsg at hsn
  generalize (b.drop (f + s * m)).take m = C at *
  generalize rowF fMg (msgTo t b f m s) = R at *
  dsimp only [fMg,List.map,frB] at hsn k
  replace hsn := hide hsn
  replace hx := hide hx
  repeat' (first
   | (simp -implicitDefEqProofs only [*,List.length_map,zr,Nat.reduceAdd,Nat.reduceSub,Nat.reduceMul,Nat.reduceLT,Nat.reduceLeDiff,Nat.reduceEqDiff,Nat.reduceBEq,reduceIte,reduceCtorEq,Int.reduceLE,Int.reduceLT,Int.reduceToNat,Int.reduceEq,Int.reduceNe])
   | ((first|apply zk0|apply zk1|apply zk2|apply zk3|apply zk4|apply zk5|apply zk6|apply zk7|apply zk8|apply zk9) <;> intro hc)
   |(refine callP0 rfl ?_)
   |(refine callD0 rfl ?_)
   |(refine cP (k) ?_)
   |(refine cD (k) ?_)
   |(refine cF (k) ?_)
   |(refine cO (k) ?_)
   | fail)
  refine ⟨s + 1,h,by omega,?_⟩
  rw [hsn.out]
  refine wk_i ?_ ?_ <;> simp only [zw,Nat.reduceEqDiff,Nat.reduceBEq,Nat.reduceLT,Nat.reduceLeDiff,reduceIte,reduceCtorEq]
  exact SlotsOk.of_eq (by rw [List.map_append];rfl)
 ·obtain rfl : s = N := by omega
  have hs1 : ¬ s * m < b.length - f := fun hh => Nat.lt_irrefl _ ((hLT.out s).2 hh)
  have h2 : decide (((f + s * m : Nat) : Int) < ((b.length : Nat) : Int)) = false := dcF (by omega)
  have h2' : decide (f + s * m < b.length) = false := dcF (by omega)
  repeat' (first
   | (simp -implicitDefEqProofs only [*,List.length_map,zr,Nat.reduceAdd,Nat.reduceSub,Nat.reduceMul,Nat.reduceLT,Nat.reduceLeDiff,Nat.reduceEqDiff,Nat.reduceBEq,reduceIte,reduceCtorEq,Int.reduceLE,Int.reduceLT,Int.reduceToNat,Int.reduceEq,Int.reduceNe])
   | ((first|apply zk0|apply zk1|apply zk2|apply zk3|apply zk4|apply zk5|apply zk6|apply zk7|apply zk8|apply zk9) <;> intro hc)
   |(refine callP0 rfl ?_)
   |(refine callD0 rfl ?_)
   | fail)
  exact ret_o rfl (by rw [row_len (sz := 5) (fun _ => rfl),msgTo_len];exact Nat.le_refl _)
theorem messages2_z (t : ByteArray) (b : List UInt8) (f m : Nat) (hb : b.length ≤ 100000) (hf : f < b.length) (hm : 1 ≤ m ∧ m ≤ 65536) :
  FRet Tryd.prog 65 [.f (.str t),.f (frB (b.take (min (f + m) b.length))),.f (.int .i64 f),.f (.int .i64 m)] [.c (.v (.fr 5 [fMg (1,t,0,((b.take (min (f + m) b.length)).length : Nat),[]),fMg (dMsg t b f m)]))] := by
 have hl : (b.take (min (f + m) b.length)).length = min (f + m) b.length := by rw [List.length_take];omega
 have k := messagesR_f t (b.take (min (f + m) b.length)) f m (by omega) (by omega) hm
 have hn : nCh ((b.take (min (f + m) b.length)).length - f) m = 1 := by
  have h1 := (nCh_lt (x := (b.take (min (f + m) b.length)).length - f) (s := 0) hm.1).2 (by omega)
  have h2 : ¬ 1 < nCh ((b.take (min (f + m) b.length)).length - f) m := fun h => by
   have := (nCh_lt hm.1).1 h
   omega
  omega
 rw [hn] at k
 have e : msgTo t (b.take (min (f + m) b.length)) f m 1 = [((1,t,0,((b.take (min (f + m) b.length)).length : Nat),[]) : Mg),dMsg t b f m] := by
  unfold msgTo dMsg
  rw [List.range_one,List.map_cons,List.map_nil,Nat.zero_mul,Nat.add_zero]
  have : ((b.take (min (f + m) b.length)).drop f).take m = (b.drop f).take m := by
   refine List.ext_getElem? fun i => ?_
   rw [List.getElem?_take,List.getElem?_drop,List.getElem?_take,List.getElem?_take,List.getElem?_drop]
   by_cases hi : i < m
   ·rw [if_pos hi,if_pos hi]
    by_cases h3 : f + i < min (f + m) b.length
    ·rw [if_pos h3]
    ·rw [if_neg h3,List.getElem?_eq_none (by omega)]
   ·rw [if_neg hi,if_neg hi]
  rw [this]
 rw [e] at k
 exact k.frz2 ⟨rcF_row0 (enc := fMg) (l := [_,_]) (fun _ => rfl),trivial⟩
end Go.Proofs.YtjacnfjlocajoaaDoor
