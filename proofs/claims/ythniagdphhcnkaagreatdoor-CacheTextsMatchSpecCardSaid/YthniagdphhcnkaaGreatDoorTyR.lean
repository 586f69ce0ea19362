/-
  The document's numbers. No statement of the seat is proved here; no conditions.
-/
import Derived.Test.YthniagdphhcnkaaGreatDoorTxD
namespace Go.Proofs.YthniagdphhcnkaaGreatDoor
open Go.RowKit Go.Shelf
set_option linter.unusedVariables false
set_option linter.unusedSimpArgs false
set_option maxRecDepth 100000

theorem isD_int (b : UInt8) : isD b = (decide ((48 : Int) ≤ (b.toNat : Int)) && decide ((b.toNat : Int) ≤ 57)) := by
 unfold isD
 congr 1 <;> rw [decide_eq_decide] <;> omega
def preBad (s : ByteArray) : Bool := decide (s = ⟨#[]⟩) || (decide ((s.size : Int) > 10) || (decide ((s.size : Int) > 1) && decide (s.data.toList.head? = some 48)))
theorem numOk_ref (s : ByteArray) : numOk s.data.toList = (!preBad s && s.data.toList.all isD) := by
 have hsz : s.data.toList.length = s.size := by simp
 by_cases h0 : s = ⟨#[]⟩
 ·subst h0;decide
 have hpos : 1 ≤ s.size := by
  rcases Nat.eq_zero_or_pos s.size with h | h
  ·exact absurd (bytes_ext (List.eq_nil_of_length_eq_zero (by rw [hsz,h]))) h0
  ·exact h
 unfold numOk preBad
 rw [decide_eq_false h0,Bool.false_or,hsz,decide_eq_true hpos,Bool.true_and]
 by_cases h10 : s.size ≤ 10
 ·rw [decide_eq_true h10,decide_eq_false (show ¬ ((s.size : Int) > 10) by omega),Bool.true_and,Bool.false_or]
  by_cases h1 : s.size = 1
  ·rw [decide_eq_false (show ¬ ((s.size : Int) > 1) by omega),Bool.false_and,Bool.not_false,Bool.true_and]
   obtain ⟨b,hb⟩ : ∃ b,s.data.toList = [b] := by
    match hq : s.data.toList,hsz with
    | [b],_ => exact ⟨b,rfl⟩
    | [],h => rw [List.length_nil] at h;omega
    | x :: y :: r,h => rw [List.length_cons,List.length_cons] at h;omega
   rw [hb]
   have : (decide (([b] : List UInt8).head? ≠ some 48) || decide ([b] = [48])) = true := by
    by_cases h : b = 48
    ·subst h;rfl
    ·rw [Bool.or_eq_true,decide_eq_true_eq];left;simpa using h
   rw [this,Bool.and_true]
  ·rw [decide_eq_true (show ((s.size : Int) > 1) by omega),Bool.true_and]
   have : decide (s.data.toList = [48]) = false := decide_eq_false fun e => by rw [e] at hsz;simp at hsz;omega
   rw [this,Bool.or_false,decide_not,Bool.and_comm]
 ·rw [decide_eq_false h10,decide_eq_true (show ((s.size : Int) > 10) by omega)]
  rfl
set_option maxHeartbeats 8000000 in
theorem numbersR_f (l : List ByteArray) (hn : l.length ≤ 10000000) : FRet Tryz.prog 40 [.f (frStrs l)] [.c (.own 1 (nvL l).length ((nvL l).map fun n => .int .i64 n)),.c (.v (.bool (numV l).isSome))] := by
 refine FCall.of_ax low_ref7_numbers ?_
 dsimp only [l_ref7_numbers,frStrs]
 refine srun_sound 300 _ _ _ _ ?_
 repeat' (first
  | (simp -implicitDefEqProofs only [*,zr,Nat.reduceAdd,Nat.reduceSub,Nat.reduceMul,Nat.reduceLT,Nat.reduceLeDiff,Nat.reduceEqDiff,Nat.reduceBEq,reduceIte,reduceCtorEq,Int.reduceLE,Int.reduceLT,Int.reduceToNat,Int.reduceEq,Int.reduceNe])
  | ((first|apply zk0|apply zk1|apply zk2|apply zk3|apply zk4|apply zk5|apply zk6|apply zk7|apply zk8|apply zk9) <;> intro hc)
  |(refine callP0 rfl ?_)
  |(refine callD0 rfl ?_)
  | fail)
 refine ax_loopU (S := Nat) 63 [0] [] (fun s => [(5,.f (.int .i64 s)),(4,.sl 61 1 1 0 s)]) (fun s => [(61,1,(((l.take s).map dv).map (FV.int .i64)).map AV.f)]) (fun s => s ≤ l.length ∧ ∀ x ∈ l.take s,numOk x.data.toList = true) (fun s => l.length - s) (0) [61] ?_ ?_ fun s hs => ?_
 ·exact ⟨Nat.zero_le _,fun x hx => by simp at hx⟩
 ·refine wk_i ?_ ?_ <;> simp only [List.take_zero,zw,Nat.reduceEqDiff,Nat.reduceBEq,Nat.reduceLT,Nat.reduceLeDiff,reduceIte,reduceCtorEq]
 obtain ⟨hi,hall⟩ := hs
 rcases Nat.lt_or_ge s l.length with hlt | hge
 ·obtain ⟨x,hx⟩ := get_some hlt
  have h4 := inc64 hlt (by omega)
  have h2 := lt_t hlt
  have h8 : ((s + 1) * 8 ≤ 140737488355328) = True := by rw [eq_iff_iff,iff_true];omega
  have hmem := List.mem_of_getElem? hx
  have bad : numOk x.data.toList = false → nvL l = [] ∧ (numV l).isSome = false := fun h => by
   unfold nvL
   rw [numV_bad hmem h];exact ⟨rfl,rfl⟩
  have hts := nums_take hx
  have htl : (((l.take s).map dv).map (FV.int .i64)).length = s := by simp;omega
  have hR := numOk_ref x
  replace bad := hide bad
  replace hmem := hide hmem
  have hall' := hide hall
  clear hall hlt
  have hxs : x.size = x.data.toList.length := by simp
  cases hpre : preBad x
  case true =>
   rw [hpre,Bool.not_true,Bool.false_and] at hR
   obtain ⟨b1,b2⟩ := bad.out hR
   rw [b1,b2]
   unfold preBad at hpre
   clear hR
   by_cases h0 : x = ⟨#[]⟩
   ·have d0 : decide (x = (⟨#[]⟩ : ByteArray)) = true := dec_t h0
    replace h0 := hide h0
    clear hpre hxs
    refine srun_sound 300 _ _ _ _ ?_
    repeat' (first
     | (simp -implicitDefEqProofs only [*,List.getElem?_map,Option.map_some,zr,Nat.reduceAdd,Nat.reduceSub,Nat.reduceMul,Nat.reduceLT,Nat.reduceLeDiff,Nat.reduceEqDiff,Nat.reduceBEq,reduceIte,reduceCtorEq,Int.reduceLE,Int.reduceLT,Int.reduceToNat,Int.reduceEq,Int.reduceNe])
     | ((first|apply zk0|apply zk1|apply zk2|apply zk3|apply zk4|apply zk5|apply zk6|apply zk7|apply zk8|apply zk9) <;> intro hc)
     |(refine callP0 rfl ?_)
     |(refine callD0 rfl ?_)
     | fail)
    exact ret_onv rfl rfl rfl
   ·have d0 : decide (x = (⟨#[]⟩ : ByteArray)) = false := dec_f h0
    rw [d0,Bool.false_or] at hpre
    replace h0 := hide h0
    by_cases h10 : (x.size : Int) > 10
    ·have d1 : decide ((x.size : Int) > 10) = true := dec_t h10
     have d1' : decide ((10 : Int) < x.size) = true := d1
     clear hpre hxs
     refine srun_sound 300 _ _ _ _ ?_
     repeat' (first
      | (simp -implicitDefEqProofs only [*,List.getElem?_map,Option.map_some,zr,Nat.reduceAdd,Nat.reduceSub,Nat.reduceMul,Nat.reduceLT,Nat.reduceLeDiff,Nat.reduceEqDiff,Nat.reduceBEq,reduceIte,reduceCtorEq,Int.reduceLE,Int.reduceLT,Int.reduceToNat,Int.reduceEq,Int.reduceNe])
      | ((first|apply zk0|apply zk1|apply zk2|apply zk3|apply zk4|apply zk5|apply zk6|apply zk7|apply zk8|apply zk9) <;> intro hc)
      |(refine callP0 rfl ?_)
      |(refine callD0 rfl ?_)
      | fail)
     exact ret_onv rfl rfl rfl
    ·have d1 : decide ((x.size : Int) > 10) = false := dec_f h10
     have d1' : decide ((10 : Int) < x.size) = false := d1
     rw [d1,Bool.false_or,Bool.and_eq_true] at hpre
     obtain ⟨d2,h48⟩ := hpre
     have d2' : decide ((1 : Int) < x.size) = true := d2
     obtain ⟨b,hb⟩ := get_some (l := x.data.toList) (i := 0) (by have := of_decide_eq_true d2;omega)
     have hb48 : b = 48 := by
      have h := of_decide_eq_true h48
      rw [List.head?_eq_getElem?,hb] at h
      exact Option.some.inj h
     subst hb48
     have d3 : decide (((48 : UInt8).toNat : Int) = 48) = true := rfl
     clear hxs h48
     refine srun_sound 300 _ _ _ _ ?_
     repeat' (first
      | (simp -implicitDefEqProofs only [*,List.getElem?_map,Option.map_some,zr,Nat.reduceAdd,Nat.reduceSub,Nat.reduceMul,Nat.reduceLT,Nat.reduceLeDiff,Nat.reduceEqDiff,Nat.reduceBEq,reduceIte,reduceCtorEq,Int.reduceLE,Int.reduceLT,Int.reduceToNat,Int.reduceEq,Int.reduceNe])
      | ((first|apply zk0|apply zk1|apply zk2|apply zk3|apply zk4|apply zk5|apply zk6|apply zk7|apply zk8|apply zk9) <;> intro hc)
      |(refine callP0 rfl ?_)
      |(refine callD0 rfl ?_)
      | fail)
     exact ret_onv rfl rfl rfl
  case false =>
   rw [hpre,Bool.not_false,Bool.true_and] at hR
   unfold preBad at hpre
   rw [Bool.or_eq_false_iff,Bool.or_eq_false_iff] at hpre
   obtain ⟨d0,d1,hpre⟩ := hpre
   have d1' : decide ((10 : Int) < x.size) = false := d1
   have hsz10 : x.size ≤ 10 := by have := of_decide_eq_false d1;omega
   have hpos : 1 ≤ x.size := by
    rcases Nat.eq_zero_or_pos x.size with h | h
    ·exact absurd (bytes_ext (List.eq_nil_of_length_eq_zero (by rw [← hxs,h]))) (of_decide_eq_false d0)
    ·exact h
   obtain ⟨b0,hb0⟩ := get_some (l := x.data.toList) (i := 0) (by omega)
   have hcond : decide ((x.size : Int) > 1) = false ∨ (decide ((x.size : Int) > 1) = true ∧ decide ((b0.toNat : Int) = 48) = false) := by
    cases hc : decide ((x.size : Int) > 1)
    ·exact .inl rfl
    ·rw [hc,Bool.true_and] at hpre
     refine .inr ⟨rfl,dec_f fun e => ?_⟩
     have h := of_decide_eq_false hpre
     rw [List.head?_eq_getElem?,hb0] at h
     have : b0.toNat = (48 : UInt8).toNat := by
      have h48 : (48 : UInt8).toNat = 48 := rfl
      omega
     exact h (by rw [UInt8.toNat_inj.1 this])
   have hA := fun h : numOk x.data.toList = true => atoi_f x (dv x) (by omega) (atoi_num h)
   replace hA := hide hA
   replace hR := hide hR
   clear hpre
   replace hxs := hide hxs
   obtain ⟨q,hq⟩ : ∃ q,q = s := ⟨s,rfl⟩
   subst hq
   rcases hcond with d2 | ⟨d2,d3⟩
   all_goals
    have d2' : decide ((1 : Int) < x.size) = _ := d2
    refine srun_sound 300 _ _ _ _ ?_
    repeat' (first
     | (simp -implicitDefEqProofs only [*,List.getElem?_map,Option.map_some,zr,Nat.reduceAdd,Nat.reduceSub,Nat.reduceMul,Nat.reduceLT,Nat.reduceLeDiff,Nat.reduceEqDiff,Nat.reduceBEq,reduceIte,reduceCtorEq,Int.reduceLE,Int.reduceLT,Int.reduceToNat,Int.reduceEq,Int.reduceNe])
     | ((first|apply zk0|apply zk1|apply zk2|apply zk3|apply zk4|apply zk5|apply zk6|apply zk7|apply zk8|apply zk9) <;> intro hc)
     |(refine callP0 rfl ?_)
     |(refine callD0 rfl ?_)
     | fail)
    refine ax_loopU (S := Nat) 63 [0,4,5,6] [61] (fun s => [(7,.f (.int .i64 s))]) (fun s => []) (fun s => s ≤ x.size ∧ ∀ (m : Nat) b,m < s → x.data.toList[m]? = some b → isD b = true) (fun s => x.size - s) (0) [] ?_ ?_ fun s hs => ?_
    ·exact ⟨Nat.zero_le _,fun m b h => absurd h (by omega)⟩
    ·refine wk_i ?_ ?_ <;> simp only [zw,Nat.reduceEqDiff,Nat.reduceBEq,Nat.reduceLT,Nat.reduceLeDiff,reduceIte,reduceCtorEq]
    obtain ⟨hi2,hall2⟩ := hs
    replace hall2 := hide hall2
    rcases Nat.lt_or_ge s x.size with hlt | hge
    ·obtain ⟨b,hb⟩ := get_some (l := x.data.toList) (i := s) (by rw [← hxs.out];exact hlt)
     have g4 := inc64 hlt (by omega)
     have g2 := lt_t hlt
     have hE := isD_int b
     have hmb := hide (List.mem_of_getElem? hb)
     cases c1 : decide ((48 : Int) ≤ (b.toNat : Int)) <;> cases c2 : decide ((b.toNat : Int) ≤ 57)
     all_goals
      rw [c1,c2] at hE
      simp only [Bool.false_and,Bool.and_false,Bool.true_and] at hE
      have c1' : decide ((b.toNat : Int) < 48) = _ := (show decide ((b.toNat : Int) < 48) = !decide ((48 : Int) ≤ (b.toNat : Int)) by rw [← decide_not,decide_eq_decide];omega).trans (congrArg Bool.not c1)
      have c2' : decide ((b.toNat : Int) > 57) = _ := (show decide ((b.toNat : Int) > 57) = !decide ((b.toNat : Int) ≤ 57) by rw [← decide_not,decide_eq_decide];omega).trans (congrArg Bool.not c2)
      have c2'' : decide (57 < (b.toNat : Int)) = _ := c2'
      simp only [Bool.not_true,Bool.not_false] at c1' c2' c2''
     all_goals first
      | (obtain ⟨b1,b2⟩ := bad.out (by rw [hR.out];exact List.all_eq_false.2 ⟨b,hmb.out,by rw [hE];decide⟩)
         rw [b1,b2]
         refine srun_sound 300 _ _ _ _ ?_
         repeat' (first
          | (simp -implicitDefEqProofs only [*,zr,Nat.reduceAdd,Nat.reduceSub,Nat.reduceMul,Nat.reduceLT,Nat.reduceLeDiff,Nat.reduceEqDiff,Nat.reduceBEq,reduceIte,reduceCtorEq,Int.reduceLE,Int.reduceLT,Int.reduceToNat,Int.reduceEq,Int.reduceNe])
          | ((first|apply zk0|apply zk1|apply zk2|apply zk3|apply zk4|apply zk5|apply zk6|apply zk7|apply zk8|apply zk9) <;> intro hc)
          |(refine callP0 rfl ?_)
          |(refine callD0 rfl ?_)
          | fail)
         exact ret_onv rfl rfl rfl)
      |(refine srun_sound 300 _ _ _ _ ?_
        repeat' (first
         | (simp -implicitDefEqProofs only [*,zr,Nat.reduceAdd,Nat.reduceSub,Nat.reduceMul,Nat.reduceLT,Nat.reduceLeDiff,Nat.reduceEqDiff,Nat.reduceBEq,reduceIte,reduceCtorEq,Int.reduceLE,Int.reduceLT,Int.reduceToNat,Int.reduceEq,Int.reduceNe])
         | ((first|apply zk0|apply zk1|apply zk2|apply zk3|apply zk4|apply zk5|apply zk6|apply zk7|apply zk8|apply zk9) <;> intro hc)
         |(refine callP0 rfl ?_)
         |(refine callD0 rfl ?_)
         | fail)
        refine ⟨s + 1,⟨hlt,fun m b' hm hb' => ?_⟩,by omega,?_⟩
        ·rcases Nat.lt_succ_iff_lt_or_eq.1 hm with h1 | rfl
         ·exact hall2.out m b' h1 hb'
         ·rw [hb] at hb';obtain rfl := Option.some.inj hb';exact hE
        ·refine wk_i ?_ ?_ <;> simp only [zw,Nat.reduceEqDiff,Nat.reduceBEq,Nat.reduceLT,Nat.reduceLeDiff,reduceIte,reduceCtorEq])
    ·obtain rfl : s = x.size := by omega
     have g2 := lt_f hge
     have hk : numOk x.data.toList = true := by
      rw [hR.out]
      exact List.all_eq_true.2 fun b hb => by
       obtain ⟨m,hm⟩ := List.mem_iff_getElem?.1 hb
       exact hall2.out m b (by have := (List.getElem?_eq_some_iff.1 hm).1;rw [hxs.out];exact this) hm
     have hat := hide (hA.out hk)
     replace hk := hide hk
     refine srun_sound 300 _ _ _ _ ?_
     repeat' (first
      | (simp -implicitDefEqProofs only [*,zr,Nat.reduceAdd,Nat.reduceSub,Nat.reduceMul,Nat.reduceLT,Nat.reduceLeDiff,Nat.reduceEqDiff,Nat.reduceBEq,reduceIte,reduceCtorEq,Int.reduceLE,Int.reduceLT,Int.reduceToNat,Int.reduceEq,Int.reduceNe])
      | ((first|apply zk0|apply zk1|apply zk2|apply zk3|apply zk4|apply zk5|apply zk6|apply zk7|apply zk8|apply zk9) <;> intro hc)
      |(refine callP0 rfl ?_)
      |(refine callD0 rfl ?_)
      |(refine cP (hat.out) ?_)
      |(refine cD (hat.out) ?_)
      |(refine cF (hat.out) ?_)
      |(refine cO (hat.out) ?_)
      | fail)
     refine ⟨q + 1,⟨by have := (List.getElem?_eq_some_iff.1 hx).1;omega,fun y hy => ?_⟩,by have := (List.getElem?_eq_some_iff.1 hx).1;omega,?_⟩
     ·rw [List.take_add_one,hx] at hy
      rcases List.mem_append.1 hy with hy | hy
      ·exact hall'.out y hy
      ·have : y = x := by simpa using hy
       rw [this];exact hk.out
     ·rw [hts]
      refine wk_i ?_ ?_ <;> simp only [List.length_append,List.map_append,zw,Nat.reduceEqDiff,Nat.reduceBEq,Nat.reduceLT,Nat.reduceLeDiff,reduceIte,reduceCtorEq]
      all_goals (rw [snocF];exact SlotsOk.of_eq rfl)
 ·obtain rfl : s = l.length := by omega
  have h2 := lt_f hge
  have h3 := List.take_length (l := l)
  rw [h3] at hall
  have hv : nvL l = l.map dv ∧ (numV l).isSome = true := by unfold nvL;rw [numV_all hall];exact ⟨rfl,rfl⟩
  rw [hv.1,hv.2]
  clear hall hv
  refine srun_sound 300 _ _ _ _ ?_
  repeat' (first
   | (simp -implicitDefEqProofs only [*,zr,Nat.reduceAdd,Nat.reduceSub,Nat.reduceMul,Nat.reduceLT,Nat.reduceLeDiff,Nat.reduceEqDiff,Nat.reduceBEq,reduceIte,reduceCtorEq,Int.reduceLE,Int.reduceLT,Int.reduceToNat,Int.reduceEq,Int.reduceNe])
   | ((first|apply zk0|apply zk1|apply zk2|apply zk3|apply zk4|apply zk5|apply zk6|apply zk7|apply zk8|apply zk9) <;> intro hc)
   |(refine callP0 rfl ?_)
   |(refine callD0 rfl ?_)
   | fail)
  exact ret_ov (by simp [cellsOf,mkH,lookH]) (by simp) rfl
theorem numbersR_z (l : List ByteArray) (hn : l.length ≤ 10000000) : FRet Tryz.prog 40 [.f (frStrs l)] [.c (.v (frI (nvL l))),.c (.v (.bool (numV l).isSome))] :=
 (numbersR_f l hn).frz (ys := [frI (nvL l),.bool (numV l).isSome]) ⟨⟨(nvL l).map fun n => [.int .i64 n],rfl,List.length_map _,fun r hr => by obtain ⟨y,_,rfl⟩ := List.mem_map.1 hr;rfl,by
   rw [Nat.mul_one,List.take_of_length_le (by rw [List.length_map];exact Nat.le_refl _),frI_flat]⟩,rfl,rfl⟩
end Go.Proofs.YthniagdphhcnkaaGreatDoor
