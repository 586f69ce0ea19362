/-
  cache.numbers. No statement of the seat is proved here; no conditions.
-/
import Derived.Test.YthniagdphhcnkaaGreatDoorTxN
import Derived.Test.YthniagdphhcnkaaGreatDoorLowT
import Derived.Test.YthniagdphhcnkaaGreatDoorFrz2
namespace Go.Proofs.YthniagdphhcnkaaGreatDoor
open Go.RowKit Go.Shelf
set_option linter.unusedVariables false
set_option linter.unusedSimpArgs false
set_option maxRecDepth 100000

def digS : List UInt8 := [48,49,50,51,52,53,54,55,56,57]
theorem trimD_f (s : ByteArray) (hs : s.size ≤ 9223372036854775807) : FRet Tryz.prog 41 [.f (.str s),.f (.str ⟨#[48,49,50,51,52,53,54,55,56,57]⟩)] [.c (.v (.str ⟨(Lib.trimS s.data.toList digS).toArray⟩))] :=
 fret_calls (by kernel_rfl) fun G Z w vs h1 h2 => by
  obtain ⟨v0,v1,rfl,r0,r1⟩ := args2 h1 h2
  obtain rfl := r0.str_
  obtain rfl := r1.str_
  have hcon := Any.strings_Trim_laid Tryz.lays160 (by kernel_rfl) s ⟨#[48,49,50,51,52,53,54,55,56,57]⟩ w hs (by decide) (ascii_of_all (by decide))
  change Calls Tryz.prog 41 _ _ _ at hcon
  exact hcon.mono fun e w' ⟨he,hb⟩ => ⟨_,he,fun Z' => .str _,hb⟩
theorem isD_all : ∀ n : _root_.Fin 256,digS.contains (UInt8.ofNat n.val) = isD (UInt8.ofNat n.val) := by decide +kernel
theorem digS_isD (b : UInt8) : digS.contains b = isD b := by
 have := isD_all ⟨b.toNat,b.toNat_lt⟩
 simpa using this
theorem trimD (s : ByteArray) : decide ((⟨(Lib.trimS s.data.toList digS).toArray⟩ : ByteArray) = ⟨#[]⟩) = s.data.toList.all isD := by
 have h := trimS_nil s.data.toList digS
 rw [show (fun x => digS.contains x) = isD from funext digS_isD] at h
 rw [← h]
 cases hq : Lib.trimS s.data.toList digS <;> simp
theorem numOk_eq {s : ByteArray} {b : UInt8} (h1 : 1 ≤ s.size) (h2 : s.size ≤ 10) (hb : s.data.toList[0]? = some b) :
  numOk s.data.toList = (decide ((⟨(Lib.trimS s.data.toList digS).toArray⟩ : ByteArray) = ⟨#[]⟩) && !(decide ((b.toNat : Int) = 48) && !decide (s = ⟨#[48]⟩))) := by
 rw [trimD]
 have hsz : s.size = s.data.toList.length := by simp
 unfold numOk
 rw [decide_eq_true (show 1 ≤ s.data.toList.length by omega),decide_eq_true (show s.data.toList.length ≤ 10 by omega),Bool.true_and,Bool.true_and]
 congr 1
 have e1 : decide (s.data.toList = [48]) = decide (s = ⟨#[48]⟩) := by
  rw [decide_eq_decide]
  exact ⟨fun h => bytes_ext h,fun h => by rw [h]⟩
 have e2 : decide (s.data.toList.head? ≠ some 48) = !decide ((b.toNat : Int) = 48) := by
  rw [← List.head?_eq_getElem?] at hb
  rw [hb,← decide_not,decide_eq_decide]
  refine not_congr ⟨fun h => ?_,fun h => ?_⟩
  ·have : b = 48 := Option.some.inj h
   rw [this];rfl
  ·have : b.toNat = (48 : UInt8).toNat := by
    have h48 : (48 : UInt8).toNat = 48 := rfl
    omega
   rw [UInt8.toNat_inj.1 this]
 rw [e1,e2]
 cases decide ((b.toNat : Int) = 48) <;> cases decide (s = ⟨#[48]⟩) <;> rfl
def dv (s : ByteArray) : Int := (decV s.data.toList : Int)
theorem numV_all : ∀ {l : List ByteArray},(∀ x ∈ l,numOk x.data.toList = true) → numV l = some (l.map dv)
 | [],_ => rfl
 | x :: l,h => by
  rw [numV,if_pos (h x List.mem_cons_self),numV_all fun y hy => h y (List.mem_cons_of_mem _ hy)];rfl
theorem numV_bad : ∀ {l : List ByteArray} {x : ByteArray},x ∈ l → numOk x.data.toList = false → numV l = none
 | y :: l,x,hx,h => by
  rw [numV]
  rcases List.mem_cons.1 hx with rfl | hx
  ·rw [if_neg (by rw [h];decide)]
  ·rw [numV_bad hx h];split <;> rfl
def nvL (l : List ByteArray) : List Int := (numV l).getD []
theorem nums_take {l : List ByteArray} {i : Nat} {x : ByteArray} (h : l[i]? = some x) : (l.take (i + 1)).map dv = (l.take i).map dv ++ [dv x] := by
 rw [List.take_add_one,h,List.map_append];rfl
theorem snocF (A : List FV) (y : FV) : A.map AV.f ++ [AV.f y] = (A ++ [y]).map AV.f := by rw [List.map_append];rfl
set_option maxHeartbeats 4000000 in
theorem numbers_f (l : List ByteArray) (hn : l.length ≤ 10000000) : FRet Tryz.prog 38 [.f (frStrs l)] [.c (.own 1 (nvL l).length ((nvL l).map fun n => .int .i64 n)),.c (.v (.bool (numV l).isSome))] := by
 refine FCall.of_ax low_cache_numbers ?_
 dsimp only [l_cache_numbers,frStrs]
 refine srun_sound 300 _ _ _ _ ?_
 repeat' (first
  | (simp -implicitDefEqProofs only [*,zr,Nat.reduceAdd,Nat.reduceSub,Nat.reduceMul,Nat.reduceLT,Nat.reduceLeDiff,Nat.reduceEqDiff,Nat.reduceBEq,reduceIte,reduceCtorEq,Int.reduceLE,Int.reduceLT,Int.reduceToNat,Int.reduceEq,Int.reduceNe])
  | ((first|apply zk0|apply zk1|apply zk2|apply zk3|apply zk4|apply zk5|apply zk6|apply zk7|apply zk8|apply zk9) <;> intro hc)
  |(refine callP0 rfl ?_)
  |(refine callD0 rfl ?_)
  | fail)
 refine ax_loopU (S := Nat) 48 [9,10] [] (fun s => [(11,.f (.int .i64 s)),(4,.sl 45 1 1 0 s)]) (fun s => [(45,1,(((l.take s).map dv).map (FV.int .i64)).map AV.f)]) (fun s => s ≤ l.length ∧ ∀ x ∈ l.take s,numOk x.data.toList = true) (fun s => l.length - s) (0) [45] ?_ ?_ fun s hs => ?_
 ·exact ⟨Nat.zero_le _,fun x hx => by simp at hx⟩
 ·refine wk_i ?_ ?_ <;> simp only [List.take_zero,zw,Nat.reduceEqDiff,Nat.reduceBEq,Nat.reduceLT,Nat.reduceLeDiff,reduceIte,reduceCtorEq]
 obtain ⟨hi,hall⟩ := hs
 refine srun_sound 300 _ _ _ _ ?_
 rcases Nat.lt_or_ge s l.length with hlt | hge
 ·obtain ⟨x,hx⟩ := get_some hlt
  have h4 := inc64 hlt (by omega)
  have h2 := lt_t hlt
  have h8 : ((s + 1) * 8 ≤ 140737488355328) = True := by rw [eq_iff_iff,iff_true];omega
  have hmem := List.mem_of_getElem? hx
  have bad : numOk x.data.toList = false → nvL l = [] ∧ (numV l).isSome = false := fun h => by
   unfold nvL
   rw [numV_bad hmem h];exact ⟨rfl,rfl⟩
  have hts := nums_take hx
  have htl : (((l.take s).map dv).map (FV.int .i64)).length = s := by simp;omega
  replace bad := hide bad
  replace hmem := hide hmem
  have hall' := hide hall
  clear hall hlt
  have hxs : x.size = x.data.toList.length := by simp
  by_cases hz : x.size = 0
  ·have d1 : decide ((x.size : Int) < 1) = true := decide_eq_true (by omega)
   have hk : numOk x.data.toList = false := by
    unfold numOk
    rw [decide_eq_false (show ¬ 1 ≤ x.data.toList.length by omega)];rfl
   obtain ⟨b1,b2⟩ := bad.out hk
   rw [b1,b2]
   clear hxs hz
   repeat' (first
    | (simp -implicitDefEqProofs only [*,List.getElem?_map,Option.map_some,zr,Nat.reduceAdd,Nat.reduceSub,Nat.reduceMul,Nat.reduceLT,Nat.reduceLeDiff,Nat.reduceEqDiff,Nat.reduceBEq,reduceIte,reduceCtorEq,Int.reduceLE,Int.reduceLT,Int.reduceToNat,Int.reduceEq,Int.reduceNe])
    | ((first|apply zk0|apply zk1|apply zk2|apply zk3|apply zk4|apply zk5|apply zk6|apply zk7|apply zk8|apply zk9) <;> intro hc)
    |(refine callP0 rfl ?_)
    |(refine callD0 rfl ?_)
    | fail)
   exact ret_onv rfl rfl rfl
  by_cases hz2 : 10 < x.size
  ·have d1 : decide ((x.size : Int) < 1) = false := decide_eq_false (by omega)
   have d2 : decide ((10 : Int) < x.size) = true := decide_eq_true (by omega)
   have hk : numOk x.data.toList = false := by
    unfold numOk
    rw [decide_eq_false (show ¬ x.data.toList.length ≤ 10 by omega),Bool.false_and,Bool.and_false]
   obtain ⟨b1,b2⟩ := bad.out hk
   rw [b1,b2]
   clear hxs hz hz2
   repeat' (first
    | (simp -implicitDefEqProofs only [*,List.getElem?_map,Option.map_some,zr,Nat.reduceAdd,Nat.reduceSub,Nat.reduceMul,Nat.reduceLT,Nat.reduceLeDiff,Nat.reduceEqDiff,Nat.reduceBEq,reduceIte,reduceCtorEq,Int.reduceLE,Int.reduceLT,Int.reduceToNat,Int.reduceEq,Int.reduceNe])
    | ((first|apply zk0|apply zk1|apply zk2|apply zk3|apply zk4|apply zk5|apply zk6|apply zk7|apply zk8|apply zk9) <;> intro hc)
    |(refine callP0 rfl ?_)
    |(refine callD0 rfl ?_)
    | fail)
   exact ret_onv rfl rfl rfl
  have d1 : decide ((x.size : Int) < 1) = false := decide_eq_false (by omega)
  have d2 : decide ((10 : Int) < x.size) = false := decide_eq_false (by omega)
  obtain ⟨b,hb⟩ := get_some (l := x.data.toList) (i := 0) (by omega)
  have hK := numOk_eq (show 1 ≤ x.size by omega) (by omega) hb
  have hT := trimD_f x (by omega)
  have hA := fun h : numOk x.data.toList = true => atoi_f x (dv x) (by omega) (atoi_num h)
  generalize (⟨(Lib.trimS x.data.toList digS).toArray⟩ : ByteArray) = tr at hK hT
  replace hT := hide hT
  replace hA := hide hA
  replace hK := hide hK
  clear hxs hz hz2
  cases c1 : decide (tr = (⟨#[]⟩ : ByteArray)) <;> cases c2 : decide ((b.toNat : Int) = 48) <;> cases c3 : decide (x = (⟨#[48]⟩ : ByteArray))
  all_goals
   have hk := hK.out
   rw [c1,c2,c3] at hk
   simp only [Bool.false_and,Bool.true_and,Bool.and_true,Bool.and_false,Bool.not_true,Bool.not_false] at hk
  all_goals first
   | (obtain ⟨b1,b2⟩ := bad.out hk
      rw [b1,b2]
      clear hk
      repeat' (first
       | (simp -implicitDefEqProofs only [*,List.getElem?_map,Option.map_some,zr,Nat.reduceAdd,Nat.reduceSub,Nat.reduceMul,Nat.reduceLT,Nat.reduceLeDiff,Nat.reduceEqDiff,Nat.reduceBEq,reduceIte,reduceCtorEq,Int.reduceLE,Int.reduceLT,Int.reduceToNat,Int.reduceEq,Int.reduceNe])
       | ((first|apply zk0|apply zk1|apply zk2|apply zk3|apply zk4|apply zk5|apply zk6|apply zk7|apply zk8|apply zk9) <;> intro hc)
       |(refine callP0 rfl ?_)
       |(refine callD0 rfl ?_)
       |(refine cP (hT.out) ?_)
       |(refine cD (hT.out) ?_)
       |(refine cF (hT.out) ?_)
       |(refine cO (hT.out) ?_)
       | fail)
      exact ret_onv rfl rfl rfl)
   | (have hat := hide (hA.out hk)
      have hk2 := hide hk
      clear hk
      repeat' (first
       | (simp -implicitDefEqProofs only [*,List.getElem?_map,Option.map_some,zr,Nat.reduceAdd,Nat.reduceSub,Nat.reduceMul,Nat.reduceLT,Nat.reduceLeDiff,Nat.reduceEqDiff,Nat.reduceBEq,reduceIte,reduceCtorEq,Int.reduceLE,Int.reduceLT,Int.reduceToNat,Int.reduceEq,Int.reduceNe])
       | ((first|apply zk0|apply zk1|apply zk2|apply zk3|apply zk4|apply zk5|apply zk6|apply zk7|apply zk8|apply zk9) <;> intro hc)
       |(refine callP0 rfl ?_)
       |(refine callD0 rfl ?_)
       |(refine cP (hT.out) ?_)
       |(refine cD (hT.out) ?_)
       |(refine cF (hT.out) ?_)
       |(refine cO (hT.out) ?_)
       |(refine cP (hat.out) ?_)
       |(refine cD (hat.out) ?_)
       |(refine cF (hat.out) ?_)
       |(refine cO (hat.out) ?_)
       | fail)
      refine ⟨s + 1,⟨by have := (List.getElem?_eq_some_iff.1 hx).1;omega,fun y hy => ?_⟩,by have := (List.getElem?_eq_some_iff.1 hx).1;omega,?_⟩
      ·rw [List.take_add_one,hx] at hy
       rcases List.mem_append.1 hy with hy | hy
       ·exact hall'.out y hy
       ·have : y = x := by simpa using hy
        rw [this];exact hk2.out
      ·rw [hts]
       refine wk_i ?_ ?_ <;> simp only [List.length_append,List.map_append,zw,Nat.reduceEqDiff,Nat.reduceBEq,Nat.reduceLT,Nat.reduceLeDiff,reduceIte,reduceCtorEq]
       all_goals (rw [snocF];exact SlotsOk.of_eq rfl))
 ·obtain rfl : s = l.length := by omega
  have h2 := lt_f hge
  have h3 := List.take_length (l := l)
  rw [h3] at hall
  have hv : nvL l = l.map dv ∧ (numV l).isSome = true := by unfold nvL;rw [numV_all hall];exact ⟨rfl,rfl⟩
  rw [hv.1,hv.2]
  clear hall hv
  repeat' (first
   | (simp -implicitDefEqProofs only [*,zr,Nat.reduceAdd,Nat.reduceSub,Nat.reduceMul,Nat.reduceLT,Nat.reduceLeDiff,Nat.reduceEqDiff,Nat.reduceBEq,reduceIte,reduceCtorEq,Int.reduceLE,Int.reduceLT,Int.reduceToNat,Int.reduceEq,Int.reduceNe])
   | ((first|apply zk0|apply zk1|apply zk2|apply zk3|apply zk4|apply zk5|apply zk6|apply zk7|apply zk8|apply zk9) <;> intro hc)
   |(refine callP0 rfl ?_)
   |(refine callD0 rfl ?_)
   | fail)
  exact ret_ov (by simp [cellsOf,mkH,lookH]) (by simp) rfl
def frI (l : List Int) : FV := .fr 1 (l.map fun n => [.int .i64 n])
theorem frI_flat (l : List Int) : (l.map fun n => [FV.int .i64 n]).flatten = l.map fun n => FV.int .i64 n := by
 induction l with
 | nil => rfl
 | cons a l ih => rw [List.map_cons,List.flatten_cons,ih];rfl
theorem numbers_z (l : List ByteArray) (hn : l.length ≤ 10000000) : FRet Tryz.prog 38 [.f (frStrs l)] [.c (.v (frI (nvL l))),.c (.v (.bool (numV l).isSome))] :=
 (numbers_f l hn).frz (ys := [frI (nvL l),.bool (numV l).isSome]) ⟨⟨(nvL l).map fun n => [.int .i64 n],rfl,List.length_map _,fun r hr => by obtain ⟨y,_,rfl⟩ := List.mem_map.1 hr;rfl,by
   rw [Nat.mul_one,List.take_of_length_le (by rw [List.length_map];exact Nat.le_refl _),frI_flat]⟩,rfl,rfl⟩
end Go.Proofs.YthniagdphhcnkaaGreatDoor
