/-
  The law TopWantedIsMissing on the machine. No statement of the seat is proved here; no conditions.
-/
import Derived.Test.YtanhelgblnmdcaaDoorTwA
import Derived.Test.YtanhelgblnmdcaaDoorDig
import Derived.Test.YtanhelgblnmdcaaDoorEngR
namespace Go.Proofs.YtanhelgblnmdcaaDoor
open Go.RowKit Go.Shelf
set_option linter.unusedVariables false
set_option linter.unusedSimpArgs false
set_option maxRecDepth 100000

theorem lives_f : FRet Tryd.prog 6 [] [.c (.v (.bool true))] := by
 have hd : decide (digV [97] = ⟨#[97,102,54,51,100,99,52,99,56,54,48,49,101,99,56,99]⟩) = true := by decide +kernel
 have hD := Digest_f [97] (by decide)
 generalize digV [97] = d at *
 replace hD := hide hD
 refine FCall.of_ax low_top_lives ?_
 dsimp only [l_top_lives]
 refine srun_sound 300 _ _ _ _ ?_
 repeat' (first
  | (simp -implicitDefEqProofs only [*,frB,encU,zr,Nat.reduceAdd,Nat.reduceSub,Nat.reduceMul,Nat.reduceLT,Nat.reduceLeDiff,Nat.reduceEqDiff,Nat.reduceBEq,reduceIte,reduceCtorEq,Int.reduceLE,Int.reduceLT,Int.reduceToNat,Int.reduceEq,Int.reduceNe])
  | ((first|apply zk0|apply zk1|apply zk2|apply zk3|apply zk4|apply zk5|apply zk6|apply zk7|apply zk8|apply zk9) <;> intro hc)
  |(refine callP0 rfl ?_)
  |(refine callD0 rfl ?_)
  |(refine cP (hD.out) ?_)
  |(refine cD (hD.out) ?_)
  |(refine cF (hD.out) ?_)
  | fail)
 exact ret_v
theorem doAsk (c : Cache) (at_ : Int) (ds : List ByteArray) (hb : CBound c) (hl : (ds.length : Int) ≤ 9223372036854775807) : ∃ r l fb fe b m g f,FRet Tryd.prog 5 [aCache c,aEv (3,at_,⟨#[]⟩,ds,⟨#[]⟩,0)] [.agg [.v (.int .i64 r),.v (.int .i64 l),.v fb,.v fe],rAns b m g,.c (.v (.int .i64 f))] ∧ (f = 0 → b = decide ((missingOf c.2.2.1 ds).length = 0) ∧ m = frStrs (missingOf c.2.2.1 ds)) := by
 by_cases h : doErr c (3,at_,⟨#[]⟩,ds,⟨#[]⟩,0) = 0
 ·refine ⟨_,_,_,_,_,_,_,_,Do_yes c (3,at_,⟨#[]⟩,ds,⟨#[]⟩,0) hb hl h,fun _ => ?_⟩
  obtain ⟨h0,h1,h2,h3⟩ := doErr_right h
  rw [h3,actV,if_neg (show ¬ (3 : Int) = 1 by decide),if_neg (show ¬ (3 : Int) = 2 by decide),if_pos (show (3 : Int) = 3 from rfl)]
  exact ⟨rfl,frz_s _⟩
 ·exact ⟨_,_,_,_,_,_,_,_,Do_no c _ hb hl h,fun h2 => absurd h2 h⟩
theorem digsB_snoc {l : List Blob} {s : Nat} {x : Blob} (h : l[s]? = some x) : digsB (l.take (s + 1)) = digsB (l.take s) ++ [x.1] := by
 rw [List.take_add_one,h,digsB,List.map_append];rfl
theorem map1_snoc {l : List Sized} {s : Nat} {x : Sized} (h : l[s]? = some x) : (l.take (s + 1)).map (·.1) = (l.take s).map (·.1) ++ [x.1] := by
 rw [List.take_add_one,h,List.map_append];rfl
set_option maxHeartbeats 8000000 in
theorem want_law (c : Cache) (l : List Sized) (at_ : Int) (hb : CBound c) (hbl : c.2.2.1.length * 16 ≤ 140737488355328) (hl : l.length * 16 ≤ 140737488355328) : FRet Tryd.prog 3 [aCache c,.f (frSized l),.f (.int .i64 at_)] [.c (.v (.bool true))] := by
 obtain ⟨xr,xl,fb,fe,b,m,g,f,k1,hM⟩ := doAsk c at_ (l.map (·.1)) hb (by rw [List.length_map];omega)
 have kW := Wanted_f l (digsB c.2.2.1) (by omega) (by unfold digsB;rw [List.length_map];omega)
 rw [← want_missing] at hM
 have hrange := fun h : wantErr l (digsB c.2.2.1) = 0 => ckSz_range (l := l) (by unfold wantErr at h;by_cases h2 : ckSz l = 0 <;> simp_all)
 clear hb
 obtain ⟨room,lease,bl,en⟩ := c
 dsimp only [aCache,aEv,rAns] at k1 hM kW hrange hbl
 refine FCall.of_ax low_top_TopWantedIsMissing ?_
 dsimp only [l_top_TopWantedIsMissing,aCache]
 refine srun_sound 300 _ _ _ _ ?_
 replace k1 := hide k1
 replace kW := hide kW
 replace hM := hide hM
 replace hrange := hide hrange
 repeat' (first
  | (simp -implicitDefEqProofs only [*,frBlobs,frEntries,zr,Nat.reduceAdd,Nat.reduceSub,Nat.reduceMul,Nat.reduceLT,Nat.reduceLeDiff,Nat.reduceEqDiff,Nat.reduceBEq,reduceIte,reduceCtorEq,Int.reduceLE,Int.reduceLT,Int.reduceToNat,Int.reduceEq,Int.reduceNe])
  | ((first|apply zk0|apply zk1|apply zk2|apply zk3|apply zk4|apply zk5|apply zk6|apply zk7|apply zk8|apply zk9) <;> intro hc)
  |(refine callP0 rfl ?_)
  |(refine callD0 rfl ?_)
  | fail)
 refine ax_loopU (S := Nat) 129 [1,2,3,8] [3] (fun s => [(9,.f (.int .i64 s)),(7,.sl 34 1 1 0 s)]) (fun s => [(34,1,AObj.cells (((digsB (bl.take s)).map FV.str).map AV.f))]) (fun s => s ≤ bl.length) (fun s => bl.length - s) (0) [34] ?_ ?_ fun s hs => ?_
 ·exact Nat.zero_le _
 ·refine wk_i ?_ ?_ <;> simp only [List.take_zero,show digsB [] = [] from rfl,zw,Nat.reduceEqDiff,Nat.reduceBEq,Nat.reduceLT,Nat.reduceLeDiff,reduceIte,reduceCtorEq]
 refine srun_sound 300 _ _ _ _ ?_
 rcases Nat.lt_or_ge s bl.length with hlt | hge
 ·obtain ⟨x,hx⟩ := get_some hlt
  have h4 := inc64 hlt (by omega)
  have h2 := lt_t hlt
  have hs2 := digsB_snoc hx
  have h8 : ((s + 1) * 16 ≤ 140737488355328) = True := by rw [eq_iff_iff,iff_true];omega
  have hdl : (digsB (bl.take s)).length = s := by unfold digsB;rw [List.length_map,List.length_take];omega
  generalize digsB (bl.take s) = D at *
  replace hs2 := hide hs2
  obtain ⟨xd,xs,xu,xn,xp⟩ := x
  repeat' (first
   | (simp -implicitDefEqProofs only [*,List.getElem?_map,Option.map_some,fBlob,zr,Nat.reduceAdd,Nat.reduceSub,Nat.reduceMul,Nat.reduceLT,Nat.reduceLeDiff,Nat.reduceEqDiff,Nat.reduceBEq,reduceIte,reduceCtorEq,Int.reduceLE,Int.reduceLT,Int.reduceToNat,Int.reduceEq,Int.reduceNe])
   | ((first|apply zk0|apply zk1|apply zk2|apply zk3|apply zk4|apply zk5|apply zk6|apply zk7|apply zk8|apply zk9) <;> intro hc)
   |(refine callP0 rfl ?_)
   |(refine callD0 rfl ?_)
   | fail)
  refine ⟨s + 1,hlt,by omega,?_⟩
  rw [hs2.out]
  refine wk_i ?_ ?_ <;> simp only [List.length_append,zw,Nat.reduceEqDiff,Nat.reduceBEq,Nat.reduceLT,Nat.reduceLeDiff,reduceIte,reduceCtorEq]
  all_goals first | exact SlotsOk.of_eq (by simp) | rfl | omega
 obtain rfl : s = bl.length := by omega
 have h2 := lt_f hge
 rw [List.take_length]
 clear hge hs
 repeat' (first
  | (simp -implicitDefEqProofs only [*,List.length_map,zr,Nat.reduceAdd,Nat.reduceSub,Nat.reduceMul,Nat.reduceLT,Nat.reduceLeDiff,Nat.reduceEqDiff,Nat.reduceBEq,reduceIte,reduceCtorEq,Int.reduceLE,Int.reduceLT,Int.reduceToNat,Int.reduceEq,Int.reduceNe])
  | ((first|apply zk0|apply zk1|apply zk2|apply zk3|apply zk4|apply zk5|apply zk6|apply zk7|apply zk8|apply zk9) <;> intro hc)
  |(refine callP0 rfl ?_)
  |(refine callD0 rfl ?_)
  | fail)
 clear h2
 have hDl : bl.length = (digsB bl).length := by unfold digsB;rw [List.length_map]
 generalize digsB bl = D at *
 rw [hDl]
 refine ax_loopU (S := Nat) 129 [1,2,3,7] [3,34] (fun s => [(10,.f (.int .i64 s)),(8,.sl 48 1 1 0 s)]) (fun s => [(48,1,AObj.cells ((((l.take s).map (·.1)).map FV.str).map AV.f))]) (fun s => s ≤ l.length) (fun s => l.length - s) (0) [48] ?_ ?_ fun s hs => ?_
 ·exact Nat.zero_le _
 ·refine wk_i ?_ ?_ <;> simp only [List.take_zero,List.map_nil,zw,Nat.reduceEqDiff,Nat.reduceBEq,Nat.reduceLT,Nat.reduceLeDiff,reduceIte,reduceCtorEq]
 rcases Nat.lt_or_ge s l.length with hlt | hge
 ·refine srun_sound 300 _ _ _ _ ?_
  obtain ⟨x,hx⟩ := get_some hlt
  have h4 := inc64 hlt (by omega)
  have h2 := lt_t hlt
  have hs2 := map1_snoc hx
  have h8 : ((s + 1) * 16 ≤ 140737488355328) = True := by rw [eq_iff_iff,iff_true];omega
  have hdl : ((l.take s).map (·.1)).length = s := by rw [List.length_map,List.length_take];omega
  generalize (l.take s).map (·.1) = A at *
  replace hs2 := hide hs2
  obtain ⟨xd,xs⟩ := x
  repeat' (first
   | (simp -implicitDefEqProofs only [*,frSized,List.getElem?_map,Option.map_some,List.length_map,fSized,zr,Nat.reduceAdd,Nat.reduceSub,Nat.reduceMul,Nat.reduceLT,Nat.reduceLeDiff,Nat.reduceEqDiff,Nat.reduceBEq,reduceIte,reduceCtorEq,Int.reduceLE,Int.reduceLT,Int.reduceToNat,Int.reduceEq,Int.reduceNe])
   | ((first|apply zk0|apply zk1|apply zk2|apply zk3|apply zk4|apply zk5|apply zk6|apply zk7|apply zk8|apply zk9) <;> intro hc)
   |(refine callP0 rfl ?_)
   |(refine callD0 rfl ?_)
   | fail)
  refine ⟨s + 1,hlt,by omega,?_⟩
  rw [hs2.out]
  refine wk_i ?_ ?_ <;> simp only [List.length_append,zw,Nat.reduceEqDiff,Nat.reduceBEq,Nat.reduceLT,Nat.reduceLeDiff,reduceIte,reduceCtorEq]
  all_goals first | exact SlotsOk.of_eq (by simp) | rfl | omega
 obtain rfl : s = l.length := by omega
 have h2 := lt_f hge
 rw [List.take_length]
 clear hge hs
 have hAl : l.length = (l.map (·.1)).length := by rw [List.length_map]
 generalize hA : l.map (·.1) = A at *
 refine ax_weak (nw := []) (n := 129) (el := [(1,.f (frSized l)),(2,.f (.int .i64 at_)),(3,.ptr 3 1 0),(7,.f (frStrs D)),(8,.f (frStrs A)),(10,.f (.int .i64 l.length))]) (hl := [(3,1,.cells [.f (.int .i64 room),.f (.int .i64 lease),.f (frBlobs bl),.f (frEntries en)])]) ?_ ?_
 ·refine wk_i ?_ ?_ <;> simp only [so_mf,mapOfH_some,so_ptf,so_cc,so_ff',cellsOf_some,List.drop_zero,List.take_succ_cons,List.take_zero,Nat.zero_add,zw,Nat.reduceEqDiff,Nat.reduceBEq,Nat.reduceLT,Nat.reduceLeDiff,reduceIte,reduceCtorEq]
  all_goals first | exact ⟨rfl,rfl⟩ | exact so_strsN (by rfl) (by rfl) hAl | exact so_strsN (by rfl) (by rfl) (by rfl) | exact ⟨so_strsN (by rfl) (by rfl) (by rfl),so_strsN (by rfl) (by rfl) hAl⟩
 clear hAl hDl
 refine srun_sound 300 _ _ _ _ ?_
 by_cases hw : wantErr l D = 0
 case neg =>
  have e2 : wantO l D = [] := if_neg hw
  have kW2 := kW.out
  rw [e2] at kW2
  have d0 := dcF hw
  generalize wantErr l D = q at *
  have dz : decide (((0 : Nat) : Int) = 0) = true := rfl
  have dy : decide ((0 : Int) = 0) = true := rfl
  replace hw := hide hw
  replace kW2 := hide kW2
  clear kW hrange hM hA
  simp only [List.length_nil,sumW] at kW2
  repeat' (first
   | (simp -implicitDefEqProofs only [*,frSized,List.length_map,zr,Nat.reduceAdd,Nat.reduceSub,Nat.reduceMul,Nat.reduceLT,Nat.reduceLeDiff,Nat.reduceEqDiff,Nat.reduceBEq,reduceIte,reduceCtorEq,Int.reduceLE,Int.reduceLT,Int.reduceToNat,Int.reduceEq,Int.reduceNe])
   | ((first|apply zk0|apply zk1|apply zk2|apply zk3|apply zk4|apply zk5|apply zk6|apply zk7|apply zk8|apply zk9) <;> intro hc)
   |(refine callP0 rfl ?_)
   |(refine callD0 rfl ?_)
   |(refine cP (kW2.out) ?_)
   |(refine cD (kW2.out) ?_)
   |(refine cF (kW2.out) ?_)
   |(refine cP (k1.out) ?_)
   |(refine cD (k1.out) ?_)
   |(refine cF (k1.out) ?_)
   |(refine cP (lives_f) ?_)
   |(refine cD (lives_f) ?_)
   |(refine cF (lives_f) ?_)
   | fail)
  exact ret_v
 have e2 : wantO l D = wantL l D := if_pos hw
 have kW2 := kW.out
 rw [e2,hw] at kW2
 obtain ⟨hl4,hr⟩ := hrange.out hw
 have dy : decide ((0 : Int) = 0) = true := rfl
 replace hw := hide hw
 replace kW2 := hide kW2
 by_cases hf : f = 0
 case neg =>
  have d0 := dcF hf
  replace hf := hide hf
  clear kW hrange hM hA
  repeat' (first
   | (simp -implicitDefEqProofs only [*,frSized,List.length_map,zr,Nat.reduceAdd,Nat.reduceSub,Nat.reduceMul,Nat.reduceLT,Nat.reduceLeDiff,Nat.reduceEqDiff,Nat.reduceBEq,reduceIte,reduceCtorEq,Int.reduceLE,Int.reduceLT,Int.reduceToNat,Int.reduceEq,Int.reduceNe])
   | ((first|apply zk0|apply zk1|apply zk2|apply zk3|apply zk4|apply zk5|apply zk6|apply zk7|apply zk8|apply zk9) <;> intro hc)
   |(refine callP0 rfl ?_)
   |(refine callD0 rfl ?_)
   |(refine cP (kW2.out) ?_)
   |(refine cD (kW2.out) ?_)
   |(refine cF (kW2.out) ?_)
   |(refine cP (k1.out) ?_)
   |(refine cD (k1.out) ?_)
   |(refine cF (k1.out) ?_)
   |(refine cP (lives_f) ?_)
   |(refine cD (lives_f) ?_)
   |(refine cF (lives_f) ?_)
   | fail)
  exact ret_v
 subst hf
 obtain ⟨m1,m2⟩ := hM.out rfl
 subst m2
 have hWr : ∀ x ∈ wantL l D,0 ≤ x.2 ∧ x.2 ≤ 2000000 := fun x hx => hr x (List.mem_filter.1 hx).1
 have hWl : (wantL l D).length ≤ 4000 := Nat.le_trans (wantL_len l D) hl4
 clear kW hrange hM hA e2 hr
 generalize wantL l D = W at *
 rw [show decide ((W.map (·.1)).length = 0) = decide ((W.length : Int) = 0) by rw [List.length_map,decide_eq_decide];omega] at m1
 subst m1
 replace hWr := hide hWr
 repeat' (first
  | (simp -implicitDefEqProofs only [*,frSized,frStrs,List.length_map,zr,Nat.reduceAdd,Nat.reduceSub,Nat.reduceMul,Nat.reduceLT,Nat.reduceLeDiff,Nat.reduceEqDiff,Nat.reduceBEq,reduceIte,reduceCtorEq,Int.reduceLE,Int.reduceLT,Int.reduceToNat,Int.reduceEq,Int.reduceNe])
  | ((first|apply zk0|apply zk1|apply zk2|apply zk3|apply zk4|apply zk5|apply zk6|apply zk7|apply zk8|apply zk9) <;> intro hc)
  |(refine callP0 rfl ?_)
  |(refine callD0 rfl ?_)
  |(refine cP (kW2.out) ?_)
  |(refine cD (kW2.out) ?_)
  |(refine cF (kW2.out) ?_)
  |(refine cP (k1.out) ?_)
  |(refine cD (k1.out) ?_)
  |(refine cF (k1.out) ?_)
  |(refine cP (lives_f) ?_)
  |(refine cD (lives_f) ?_)
  |(refine cF (lives_f) ?_)
  | fail)
 clear k1 kW2 hl4 hl hbl
 have dS : decide (sumW W = sumW W) = true := by simp
 refine ax_loopU (S := Nat) 129 [11,12,15] [15,52] (fun s => [(17,.f (.int .i64 (sumW (W.take s)))),(18,.f (.int .i64 s))]) (fun s => []) (fun s => s ≤ W.length) (fun s => W.length - s) (0) [] ?_ ?_ fun s hs => ?_
 ·exact Nat.zero_le _
 ·refine wk_i ?_ ?_ <;> simp only [List.take_zero,sumW,zw,Nat.reduceEqDiff,Nat.reduceBEq,Nat.reduceLT,Nat.reduceLeDiff,reduceIte,reduceCtorEq]
 refine srun_sound 300 _ _ _ _ ?_
 clear h2
 rcases Nat.lt_or_ge s W.length with hlt | hge
 ·obtain ⟨x,hx⟩ := get_some hlt
  have h4 := inc64 hlt (by omega)
  have h2 := lt_t hlt
  have hsn : sumW (W.take (s + 1)) = sumW (W.take s) + x.2 := by rw [List.take_add_one,hx];exact sumW_snoc
  have hbd := sumW_range (l := W.take s) (fun x hx => hWr.out x (List.mem_of_mem_take hx))
  have hxb := hWr.out x (List.mem_of_getElem? hx)
  rw [List.length_take] at hbd
  have hw : IntKind.i64.wrap (sumW (W.take s) + x.2) = sumW (W.take s) + x.2 := by rw [wrap64] <;> omega
  have hc1 : ((rowF fSized W).map AV.f)[s * 2]? = some (.f (.str x.1)) := row_cell (enc := fSized) (sz := 2) (j := 0) (fun _ => rfl) hx rfl
  have hc2 : ((rowF fSized W).map AV.f)[s * 2 + 1]? = some (.f (.int .i64 x.2)) := row_cell (enc := fSized) (sz := 2) (j := 1) (fun _ => rfl) hx rfl
  have hin1 := row_in (enc := fSized) (sz := 2) (l := W) (fun _ => rfl) hlt
  have hdx : decide (x.1 = x.1) = true := by simp
  obtain ⟨xd,xs⟩ := x
  dsimp only at hc1 hc2 hsn hw hdx
  clear hbd hxb
  replace hsn := hide hsn
  generalize sumW (W.take s) = S at *
  generalize hcy : (rowF fSized W).map AV.f = cy at hc1 hc2 hin1 ⊢
  repeat' (first
   | (simp -implicitDefEqProofs only [*,List.getElem?_map,Option.map_some,hcy,zr,Nat.reduceAdd,Nat.reduceSub,Nat.reduceMul,Nat.reduceLT,Nat.reduceLeDiff,Nat.reduceEqDiff,Nat.reduceBEq,reduceIte,reduceCtorEq,Int.reduceLE,Int.reduceLT,Int.reduceToNat,Int.reduceEq,Int.reduceNe])
   | ((first|apply zk0|apply zk1|apply zk2|apply zk3|apply zk4|apply zk5|apply zk6|apply zk7|apply zk8|apply zk9) <;> intro hc)
   |(refine callP0 rfl ?_)
   |(refine callD0 rfl ?_)
   | fail)
  subst hcy
  refine ⟨s + 1,hlt,by omega,?_⟩
  rw [hsn.out]
  refine wk_i ?_ ?_ <;> simp only [zw,Nat.reduceEqDiff,Nat.reduceBEq,Nat.reduceLT,Nat.reduceLeDiff,reduceIte,reduceCtorEq]
 ·obtain rfl : s = W.length := by omega
  have h2 := lt_f hge
  rw [List.take_length]
  generalize sumW W = S at *
  repeat' (first
   | (simp -implicitDefEqProofs only [*,List.length_map,zr,Nat.reduceAdd,Nat.reduceSub,Nat.reduceMul,Nat.reduceLT,Nat.reduceLeDiff,Nat.reduceEqDiff,Nat.reduceBEq,reduceIte,reduceCtorEq,Int.reduceLE,Int.reduceLT,Int.reduceToNat,Int.reduceEq,Int.reduceNe])
   | ((first|apply zk0|apply zk1|apply zk2|apply zk3|apply zk4|apply zk5|apply zk6|apply zk7|apply zk8|apply zk9) <;> intro hc)
   |(refine callP0 rfl ?_)
   |(refine callD0 rfl ?_)
   |(refine cP (lives_f) ?_)
   |(refine cD (lives_f) ?_)
   |(refine cF (lives_f) ?_)
   | fail)
  exact ret_v
abbrev rSized : Rep Sized := rPair rStr (rI .i64)
theorem fz_sized : Fz rSized 2 fSized := fz_pair fz_str len_s fz_int
theorem fz_sizeds : Fz (rSl 2 24 rSized) 1 (fun l => [frSized l]) := fz_sl fz_sized
theorem sl_bytes {α : Type} {sz bts : Nat} {R : Rep α} {w : World} {B : Nat} {l : List α} {cs : List Value} (h : rSl sz bts R w B l cs) : l.length * bts ≤ 140737488355328 := by
 obtain ⟨A,c,_,h1,h2,h3,_⟩ := h
 omega
theorem want_any (cs : List Value) (c : Cache) (A : Option Addr) (n k : Nat) (l : List Sized) (at_ : Int) (W : World) (h : rCache W W.heap.size c cs) (hr : rSl 2 24 rSized W W.heap.size l [.slice A n k]) : Calls Tryd.prog 3 #[.agg cs.toArray,.slice A n k,.int .i64 at_] W fun e w' => e = .returned (.bool true) ∧ Below W.heap.size W w' := by
 have hb : c.2.2.1.length * 48 ≤ 140737488355328 := by
  obtain ⟨_,_,_,_,_,_,_,_,_,_,_,hb,_⟩ := h
  exact sl_bytes hb
 have hl := sl_bytes hr
 exact (want_law c l at_ (cache_bound h).1 (by omega) (by omega)).callsA rfl (args3 (fz_cache.agg len_cache h) (.f (fz_sizeds.one (a := frSized) hr)) (.f (.int _ _)))
end Go.Proofs.YtanhelgblnmdcaaDoor
