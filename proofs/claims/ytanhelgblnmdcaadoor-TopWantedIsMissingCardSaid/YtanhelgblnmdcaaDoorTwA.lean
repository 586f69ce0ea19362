/-
  What is wanted of contents, on the machine. No statement of the seat is proved here; no conditions.
-/
import Derived.Test.YtanhelgblnmdcaaDoorWiP
import Derived.Test.YtanhelgblnmdcaaDoorLowD
namespace Go.Proofs.YtanhelgblnmdcaaDoor
open Go.RowKit Go.Shelf
set_option linter.unusedVariables false
set_option linter.unusedSimpArgs false
set_option maxRecDepth 100000

theorem wwithin_f (n l h : Int) : FRet Tryd.prog 13 [.f (.int .i64 n),.f (.int .i64 l),.f (.int .i64 h)] [.c (.v (.bool (inRg n l h)))] := by
 refine FCall.of_ax low_wire_within ?_
 dsimp only [l_wire_within]
 refine srun_sound 100 _ _ _ _ ?_
 repeat' (first
  | (simp -implicitDefEqProofs only [*,zr,Nat.reduceAdd,Nat.reduceSub,Nat.reduceMul,Nat.reduceLT,Nat.reduceLeDiff,Nat.reduceEqDiff,Nat.reduceBEq,reduceIte,reduceCtorEq,Int.reduceLE,Int.reduceLT,Int.reduceToNat,Int.reduceEq,Int.reduceNe])
  | ((first|apply zk0|apply zk1|apply zk2|apply zk3|apply zk4|apply zk5|apply zk6|apply zk7|apply zk8|apply zk9) <;> intro hc)
  |(refine callP0 rfl ?_)
  |(refine callD0 rfl ?_)
  | fail)
 all_goals (refine ret_ve ?_;simp only [inRg, *,Bool.true_and,Bool.false_and])
theorem CheckSizes_f (l : List Sized) (hl : (l.length : Int) ≤ 9223372036854775807) : FRet Tryd.prog 7 [.f (frSized l)] [.c (.v (.int .i64 (ckSz l)))] := by
 refine FCall.of_ax low_wire_CheckSizes ?_
 dsimp only [l_wire_CheckSizes,frSized]
 refine srun_sound 300 _ _ _ _ ?_
 repeat' (first
  | (simp -implicitDefEqProofs only [*,zr,Nat.reduceAdd,Nat.reduceSub,Nat.reduceMul,Nat.reduceLT,Nat.reduceLeDiff,Nat.reduceEqDiff,Nat.reduceBEq,reduceIte,reduceCtorEq,Int.reduceLE,Int.reduceLT,Int.reduceToNat,Int.reduceEq,Int.reduceNe])
  | ((first|apply zk0|apply zk1|apply zk2|apply zk3|apply zk4|apply zk5|apply zk6|apply zk7|apply zk8|apply zk9) <;> intro hc)
  |(refine callP0 rfl ?_)
  |(refine callD0 rfl ?_)
  | fail)
 ·rw [ckSz,if_pos (of_decide_eq_true hc)]
  exact ret_v
 rw [ckSz,if_neg (of_decide_eq_false hc)]
 clear hc
 refine ax_loopU (S := Nat) 40 [0,8,9] [] (fun s => [(10,.f (.int .i64 s))]) (fun s => []) (fun s => s ≤ l.length ∧ ∀ m,m < s → szErr l m = 0) (fun s => l.length - s) (0) [] ?_ ?_ fun s hs => ?_
 ·exact ⟨Nat.zero_le _,fe_0⟩
 ·refine wk_i ?_ ?_ <;> simp only [zw,Nat.reduceEqDiff,Nat.reduceBEq,Nat.reduceLT,Nat.reduceLeDiff,reduceIte,reduceCtorEq]
 obtain ⟨hi,hall⟩ := hs
 refine srun_sound 300 _ _ _ _ ?_
 rcases Nat.lt_or_ge s l.length with hlt | hge
 ·obtain ⟨x,hx⟩ := get_some hlt
  have h4 := inc64 hlt hl
  have hE := szErr_of hx
  have h2 := lt_t hlt
  have h6 := dec64' hlt hl
  obtain ⟨y,hy,hf⟩ := prev_of hx
  rw [hf] at hE
  clear hf
  obtain ⟨xd,xs⟩ := x
  obtain ⟨yd,ys⟩ := y
  unfold leS at hE
  simp only at hE
  repeat' (first
   | (simp -implicitDefEqProofs only [*,List.getElem?_map,Option.map_some,fSized,zr,Nat.reduceAdd,Nat.reduceSub,Nat.reduceMul,Nat.reduceLT,Nat.reduceLeDiff,Nat.reduceEqDiff,Nat.reduceBEq,reduceIte,reduceCtorEq,Int.reduceLE,Int.reduceLT,Int.reduceToNat,Int.reduceEq,Int.reduceNe])
   | ((first|apply zk0|apply zk1|apply zk2|apply zk3|apply zk4|apply zk5|apply zk6|apply zk7|apply zk8|apply zk9) <;> intro hc)
   |(refine callP0 rfl ?_)
   |(refine callD0 rfl ?_)
   |(refine cP (isDigest_f _) ?_)
   |(refine cD (isDigest_f _) ?_)
   |(refine cF (isDigest_f _) ?_)
   |(refine cO (isDigest_f _) ?_)
   |(refine cP (wwithin_f _ _ _) ?_)
   |(refine cD (wwithin_f _ _ _) ?_)
   |(refine cF (wwithin_f _ _ _) ?_)
   |(refine cO (wwithin_f _ _ _) ?_)
   | fail)
  all_goals simp only [*,if_true,if_false,Bool.false_eq_true] at hE
  all_goals first
   | exact ret_ve (by rw [fe_hit hall hlt (by rw [hE];decide),hE])
   |(refine ⟨s + 1,⟨hlt,fe_step hall hE⟩,by omega,?_⟩;refine wk_i ?_ ?_ <;> simp only [zw,Nat.reduceEqDiff,Nat.reduceBEq,Nat.reduceLT,Nat.reduceLeDiff,reduceIte,reduceCtorEq])
 ·simp -implicitDefEqProofs only [lt_f hge,zr,Nat.reduceAdd,Nat.reduceSub,Nat.reduceMul,Nat.reduceLT,Nat.reduceLeDiff,Nat.reduceEqDiff,Nat.reduceBEq,reduceIte,reduceCtorEq,Int.reduceLE,Int.reduceLT,Int.reduceToNat,Int.reduceEq,Int.reduceNe]
  obtain rfl : s = l.length := by omega
  rw [fe_none hall]
  exact ret_v
def wantO (l : List Sized) (hv : List ByteArray) : List Sized := if wantErr l hv = 0 then wantL l hv else []
theorem wantL_snoc {l : List Sized} {hv : List ByteArray} {s : Nat} {x : Sized} (h : l[s]? = some x) : wantL (l.take (s + 1)) hv = wantL (l.take s) hv ++ if hasS x.1 hv = true then [] else [x] := by
 rw [List.take_add_one,h,wantL,List.filter_append,← wantL]
 congr 1
 cases hh : hasS x.1 hv <;> simp [hh]
theorem wantL_len (l : List Sized) (hv : List ByteArray) : (wantL l hv).length ≤ l.length := List.length_filter_le _ _
theorem want_no {l : List Sized} {hv : List ByteArray} {q : Int} {H : Heap} (h : wantErr l hv = q) (hq : q ≠ 0) : Rets [.c (.own 2 (wantO l hv).length (rowF fSized (wantO l hv))),.c (.v (.int .i64 (sumW (wantO l hv)))),.c (.v (.int .i64 (wantErr l hv)))] (.tup [.f .nil,.f (.int .i64 0),.f (.int .i64 q)]) H := by
 have e : wantO l hv = [] := if_neg (by rw [h];exact hq)
 rw [e,h]
 exact ⟨[_,_,_],rfl,⟨.inl ⟨rfl,rfl,rfl⟩,rfl,rfl,rfl⟩,by simp [idsS]⟩
theorem ret_wyes {l : List Sized} {hv : List ByteArray} {n id ver : Nat} {cs : List FV} {m : Int} {H : Heap} (h : wantErr l hv = 0) (hc : cellsOf ver (H id) = some (cs.map .f)) (hcs : cs = rowF fSized (wantL l hv)) (hn : n = (wantL l hv).length) (hm : m = sumW (wantL l hv)) : Rets [.c (.own 2 (wantO l hv).length (rowF fSized (wantO l hv))),.c (.v (.int .i64 (sumW (wantO l hv)))),.c (.v (.int .i64 (wantErr l hv)))] (.tup [.sl id ver 2 0 n,.f (.int .i64 m),.f (.int .i64 0)]) H := by
 have e : wantO l hv = wantL l hv := if_pos h
 subst hcs hn hm
 rw [e,h]
 exact ⟨[_,_,_],rfl,⟨.inr ⟨_,_,rfl,hc,by rw [row_len (sz := 2) (fun _ => rfl)];exact Nat.le_refl _⟩,rfl,rfl,rfl⟩,by simp [idsS]⟩
set_option maxHeartbeats 4000000 in
theorem Wanted_f (l : List Sized) (hv : List ByteArray) (hl : (l.length : Int) ≤ 9223372036854775807) (hh : (hv.length : Int) ≤ 9223372036854775807) : FRet Tryd.prog 4 [.f (frSized l),.f (frStrs hv)] [.c (.own 2 (wantO l hv).length (rowF fSized (wantO l hv))),.c (.v (.int .i64 (sumW (wantO l hv)))),.c (.v (.int .i64 (wantErr l hv)))] := by
 have kC := CheckSizes_f l hl
 by_cases h0 : ckSz l = 0
 case neg =>
  have e1 : wantErr l hv = ckSz l := if_pos h0
  have d0 : decide (ckSz l = 0) = false := dcF h0
  generalize ckSz l = q at *
  replace e1 := hide e1
  have h0' := hide h0
  clear h0
  refine FCall.of_ax low_wire_Wanted ?_
  dsimp only [l_wire_Wanted]
  refine srun_sound 300 _ _ _ _ ?_
  repeat' (first
   | (simp -implicitDefEqProofs only [*,zr,Nat.reduceAdd,Nat.reduceSub,Nat.reduceMul,Nat.reduceLT,Nat.reduceLeDiff,Nat.reduceEqDiff,Nat.reduceBEq,reduceIte,reduceCtorEq,Int.reduceLE,Int.reduceLT,Int.reduceToNat,Int.reduceEq,Int.reduceNe])
   | ((first|apply zk0|apply zk1|apply zk2|apply zk3|apply zk4|apply zk5|apply zk6|apply zk7|apply zk8|apply zk9) <;> intro hc)
   |(refine callP0 rfl ?_)
   |(refine callD0 rfl ?_)
   |(refine cP (kC) ?_)
   |(refine cD (kC) ?_)
   |(refine cF (kC) ?_)
   |(refine cO (kC) ?_)
   | fail)
  exact want_no e1.out h0'.out
 obtain ⟨hn,hr⟩ := ckSz_range h0
 have e1 : wantErr l hv = ckDigsM hv 4000 := if_neg (by rw [h0];decide)
 rw [h0] at kC
 clear h0
 have hR := hide hr
 have hE1 := hide e1
 clear hr e1
 refine FCall.of_ax low_wire_Wanted ?_
 dsimp only [l_wire_Wanted,frStrs]
 refine srun_sound 300 _ _ _ _ ?_
 repeat' (first
  | (simp -implicitDefEqProofs only [*,zr,Nat.reduceAdd,Nat.reduceSub,Nat.reduceMul,Nat.reduceLT,Nat.reduceLeDiff,Nat.reduceEqDiff,Nat.reduceBEq,reduceIte,reduceCtorEq,Int.reduceLE,Int.reduceLT,Int.reduceToNat,Int.reduceEq,Int.reduceNe])
  | ((first|apply zk0|apply zk1|apply zk2|apply zk3|apply zk4|apply zk5|apply zk6|apply zk7|apply zk8|apply zk9) <;> intro hc)
  |(refine callP0 rfl ?_)
  |(refine callD0 rfl ?_)
  |(refine cP (kC) ?_)
  |(refine cD (kC) ?_)
  |(refine cF (kC) ?_)
  |(refine cO (kC) ?_)
  | fail)
 ·exact want_no (hE1.out.trans (if_pos (of_decide_eq_true hc))) (by decide)
 have e2 : wantErr l hv = firstErr (digErr hv) 0 hv.length := hE1.out.trans (if_neg (of_decide_eq_false hc))
 have hE2 := hide e2
 clear e2 hc hE1
 refine ax_loopU (S := Nat) 70 [0,1,8,24,25] [] (fun s => [(26,.f (.int .i64 s))]) (fun s => [(23,1,AObj.map (setL (hv.take s)))]) (fun s => s ≤ hv.length ∧ ∀ m,m < s → digErr hv m = 0) (fun s => hv.length - s) (0) [] ?_ ?_ fun s hs => ?_
 ·exact ⟨Nat.zero_le _,fe_0⟩
 ·refine wk_i ?_ ?_ <;> simp only [List.take_zero,show setL [] = [] from rfl,zw,Nat.reduceEqDiff,Nat.reduceBEq,Nat.reduceLT,Nat.reduceLeDiff,reduceIte,reduceCtorEq]
 obtain ⟨hi,hall⟩ := hs
 refine srun_sound 300 _ _ _ _ ?_
 rcases Nat.lt_or_ge s hv.length with hlt | hge
 ·obtain ⟨x,hx⟩ := get_some hlt
  have h4 := inc64 hlt hh
  have hE := digErr_of hx
  have h2 := lt_t hlt
  have h6 := dec64' hlt hh
  obtain ⟨y,hy,hf⟩ := prev_of hx
  rw [hf] at hE
  clear hf
  unfold leS at hE
  have hs2 : setL (hv.take (s + 1)) = mSet x (.bool true) (setL (hv.take s)) := by rw [List.take_add_one,hx,setL_snoc];rfl
  replace hs2 := hide hs2
  repeat' (first
   | (simp -implicitDefEqProofs only [*,List.getElem?_map,Option.map_some,zr,Nat.reduceAdd,Nat.reduceSub,Nat.reduceMul,Nat.reduceLT,Nat.reduceLeDiff,Nat.reduceEqDiff,Nat.reduceBEq,reduceIte,reduceCtorEq,Int.reduceLE,Int.reduceLT,Int.reduceToNat,Int.reduceEq,Int.reduceNe])
   | ((first|apply zk0|apply zk1|apply zk2|apply zk3|apply zk4|apply zk5|apply zk6|apply zk7|apply zk8|apply zk9) <;> intro hc)
   |(refine callP0 rfl ?_)
   |(refine callD0 rfl ?_)
   |(refine cP (isDigest_f _) ?_)
   |(refine cD (isDigest_f _) ?_)
   |(refine cF (isDigest_f _) ?_)
   |(refine cO (isDigest_f _) ?_)
   | fail)
  all_goals simp only [*,if_true,if_false,Bool.false_eq_true] at hE
  all_goals first
   | exact want_no (hE2.out.trans (by rw [fe_hit hall hlt (by rw [hE];decide),hE])) (by decide)
   |(refine ⟨s + 1,⟨hlt,fe_step hall hE⟩,by omega,?_⟩;rw [hs2.out];refine wk_i ?_ ?_ <;> simp only [zw,Nat.reduceEqDiff,Nat.reduceBEq,Nat.reduceLT,Nat.reduceLeDiff,reduceIte,reduceCtorEq])
 obtain rfl : s = hv.length := by omega
 have h2 := lt_f hge
 have e3 : wantErr l hv = 0 := hE2.out.trans (fe_none hall)
 have hE3 := hide e3
 rw [List.take_length]
 clear hE2 hall hge hi e3
 repeat' (first
  | (simp -implicitDefEqProofs only [*,frSized,zr,Nat.reduceAdd,Nat.reduceSub,Nat.reduceMul,Nat.reduceLT,Nat.reduceLeDiff,Nat.reduceEqDiff,Nat.reduceBEq,reduceIte,reduceCtorEq,Int.reduceLE,Int.reduceLT,Int.reduceToNat,Int.reduceEq,Int.reduceNe])
  | ((first|apply zk0|apply zk1|apply zk2|apply zk3|apply zk4|apply zk5|apply zk6|apply zk7|apply zk8|apply zk9) <;> intro hc)
  |(refine callP0 rfl ?_)
  |(refine callD0 rfl ?_)
  | fail)
 clear h2
 refine ax_loopU (S := Nat) 70 [8,48,49] [23] (fun s => [(50,.f (.int .i64 s)),(12,.f (.int .i64 (sumW (wantL (l.take s) hv)))),(11,.sl 62 1 2 0 (wantL (l.take s) hv).length)]) (fun s => [(62,1,AObj.cells ((rowF fSized (wantL (l.take s) hv)).map AV.f))]) (fun s => s ≤ l.length) (fun s => l.length - s) (0) [62] ?_ ?_ fun s hs => ?_
 ·exact Nat.zero_le _
 ·refine wk_i ?_ ?_ <;> simp only [List.take_zero,show wantL [] hv = [] from rfl,sumW,row_nil,List.map_nil,zw,Nat.reduceEqDiff,Nat.reduceBEq,Nat.reduceLT,Nat.reduceLeDiff,reduceIte,reduceCtorEq]
 refine srun_sound 300 _ _ _ _ ?_
 rcases Nat.lt_or_ge s l.length with hlt | hge
 ·obtain ⟨x,hx⟩ := get_some hlt
  have h4 := inc64 hlt (by omega)
  have h2 := lt_t hlt
  have hs2 := wantL_snoc (hv := hv) hx
  have hlen := wantL_len (l.take s) hv
  rw [List.length_take] at hlen
  have h8 : (((wantL (l.take s) hv).length + 1) * 24 ≤ 140737488355328) = True := by rw [eq_iff_iff,iff_true];omega
  have hbd := sumW_range (l := wantL (l.take s) hv) (fun x hx => hR.out x (List.mem_of_mem_take (List.mem_filter.1 hx).1))
  have hxb := hR.out x (List.mem_of_getElem? hx)
  have hw : IntKind.i64.wrap (sumW (wantL (l.take s) hv) + x.2) = sumW (wantL (l.take s) hv) + x.2 := by
   rw [wrap64] <;> omega
  have hsn : sumW (wantL (l.take s) hv ++ [x]) = sumW (wantL (l.take s) hv) + x.2 := sumW_snoc
  have hrl : (rowF fSized (wantL (l.take s) hv)).length = (wantL (l.take s) hv).length * 2 := row_len (fun _ => rfl)
  have hrs : rowF fSized (wantL (l.take s) hv ++ [x]) = rowF fSized (wantL (l.take s) hv) ++ fSized x := row_snoc
  clear hlen hbd hxb
  generalize wantL (l.take s) hv = m at *
  obtain ⟨xd,xs⟩ := x
  dsimp only at hs2 hsn hw
  replace hs2 := hide hs2
  replace hsn := hide hsn
  generalize hRm : rowF fSized m = R at *
  replace hrs := hide hrs
  cases hh : hasS xd hv
  ·have h := mGet_f hh
   repeat' (first
    | (simp -implicitDefEqProofs only [*,List.getElem?_map,Option.map_some,fSized,zr,Nat.reduceAdd,Nat.reduceSub,Nat.reduceMul,Nat.reduceLT,Nat.reduceLeDiff,Nat.reduceEqDiff,Nat.reduceBEq,reduceIte,reduceCtorEq,Int.reduceLE,Int.reduceLT,Int.reduceToNat,Int.reduceEq,Int.reduceNe])
    | ((first|apply zk0|apply zk1|apply zk2|apply zk3|apply zk4|apply zk5|apply zk6|apply zk7|apply zk8|apply zk9) <;> intro hc)
    |(refine callP0 rfl ?_)
    |(refine callD0 rfl ?_)
    | fail)
   have e := hs2.out
   rw [if_neg (by rw [hh];decide)] at e
   refine ⟨s + 1,hlt,by omega,?_⟩
   rw [e,hsn.out,hrs.out]
   refine wk_i ?_ ?_ <;> simp only [List.length_append,zw,Nat.reduceEqDiff,Nat.reduceBEq,Nat.reduceLT,Nat.reduceLeDiff,reduceIte,reduceCtorEq]
   all_goals first | exact SlotsOk.of_eq (by simp [fSized]) | rfl | omega
  ·have h := mGet_t hh
   repeat' (first
    | (simp -implicitDefEqProofs only [*,List.getElem?_map,Option.map_some,fSized,zr,Nat.reduceAdd,Nat.reduceSub,Nat.reduceMul,Nat.reduceLT,Nat.reduceLeDiff,Nat.reduceEqDiff,Nat.reduceBEq,reduceIte,reduceCtorEq,Int.reduceLE,Int.reduceLT,Int.reduceToNat,Int.reduceEq,Int.reduceNe])
    | ((first|apply zk0|apply zk1|apply zk2|apply zk3|apply zk4|apply zk5|apply zk6|apply zk7|apply zk8|apply zk9) <;> intro hc)
    |(refine callP0 rfl ?_)
    |(refine callD0 rfl ?_)
    | fail)
   have e := hs2.out
   rw [if_pos hh,List.append_nil] at e
   refine ⟨s + 1,hlt,by omega,?_⟩
   rw [e,hRm]
   refine wk_i ?_ ?_ <;> simp only [zw,Nat.reduceEqDiff,Nat.reduceBEq,Nat.reduceLT,Nat.reduceLeDiff,reduceIte,reduceCtorEq]
 ·obtain rfl : s = l.length := by omega
  have h2 := lt_f hge
  rw [List.take_length]
  repeat' (first
   | (simp -implicitDefEqProofs only [*,zr,Nat.reduceAdd,Nat.reduceSub,Nat.reduceMul,Nat.reduceLT,Nat.reduceLeDiff,Nat.reduceEqDiff,Nat.reduceBEq,reduceIte,reduceCtorEq,Int.reduceLE,Int.reduceLT,Int.reduceToNat,Int.reduceEq,Int.reduceNe])
   | ((first|apply zk0|apply zk1|apply zk2|apply zk3|apply zk4|apply zk5|apply zk6|apply zk7|apply zk8|apply zk9) <;> intro hc)
   |(refine callP0 rfl ?_)
   |(refine callD0 rfl ?_)
   | fail)
  exact ret_wyes hE3.out (by simp [cellsOf,mkH,lookH]) rfl rfl rfl
end Go.Proofs.YtanhelgblnmdcaaDoor
