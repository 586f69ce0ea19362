/-
  Trimming of digits. No statement of the seat is proved here; no conditions.
-/
import Derived.Test.YtagkdifaldikgaaGreatDoorQcP
import Derived.Test.YtagkdifaldikgaaGreatDoorGrC
import Derived.Test.YtagkdifaldikgaaGreatDoorLay
import Derived.Test.YtagkdifaldikgaaGreatDoorEngS
import Derived.Lib.SlTrimSet
import Derived.Shelf.Strings.SlTrimAscii
import Derived.Test.YtagkdifaldikgaaGreatDoorQcS
import Derived.Test.YtagkdifaldikgaaGreatDoorLowQ
namespace Go.Proofs.YtagkdifaldikgaaGreatDoor
open Go.RowKit Go.Shelf
set_option linter.unusedVariables false
set_option linter.unusedSimpArgs false
set_option maxRecDepth 100000

theorem dropWhile_nil {α : Type} (p : α → Bool) : ∀ l : List α,(l.dropWhile p).isEmpty = l.all p
 | [] => rfl
 | a :: l => by
  cases h : p a
  ·simp [List.dropWhile,h]
  ·simp [List.dropWhile,h,dropWhile_nil p l]
theorem trimS_nil (l cs : List UInt8) : (Lib.trimS l cs).isEmpty = l.all (cs.contains ·) := by
 unfold Lib.trimS Lib.trimLeftS Lib.trimRightS
 rw [dropWhile_nil]
 cases h : l.all (cs.contains ·)
 ·have h2 : (l.reverse.dropWhile (cs.contains ·)).isEmpty = false := by rw [dropWhile_nil,List.all_reverse];exact h
  cases h3 : l.reverse.dropWhile (cs.contains ·) with
  | nil => rw [h3] at h2;cases h2
  | cons a r =>
   have h4 : cs.contains a = false := by
    have := List.head?_dropWhile_not (cs.contains ·) l.reverse
    rw [h3] at this
    simpa using this
   rw [List.all_reverse,List.all_cons,h4];rfl
 ·have h2 : (l.reverse.dropWhile (cs.contains ·)).isEmpty = true := by rw [dropWhile_nil,List.all_reverse];exact h
  rw [List.isEmpty_iff.1 h2];rfl
def digS : List UInt8 := [48,49,50,51,52,53,54,55,56,57]
theorem trimD_f (s : ByteArray) (hs : s.size ≤ 9223372036854775807) : FRet Tryz.prog 86 [.f (.str s),.f (.str ⟨#[48,49,50,51,52,53,54,55,56,57]⟩)] [.c (.v (.str ⟨(Lib.trimS s.data.toList digS).toArray⟩))] :=
 fret_calls (by kernel_rfl) fun G Z w vs h1 h2 => by
  obtain ⟨v0,v1,rfl,r0,r1⟩ := args2 h1 h2
  obtain rfl := r0.str_
  obtain rfl := r1.str_
  have hcon := Any.strings_Trim_laid Tryz.lays160 (by kernel_rfl) s ⟨#[48,49,50,51,52,53,54,55,56,57]⟩ w hs (by decide) (ascii_of_all (by decide))
  change Calls Tryz.prog 86 _ _ _ at hcon
  exact hcon.mono fun e w' ⟨he,hb⟩ => ⟨_,he,fun Z' => .str _,hb⟩
theorem isD_all : ∀ n : _root_.Fin 256,digS.contains (UInt8.ofNat n.val) = isD (UInt8.ofNat n.val) := by decide +kernel
theorem digS_isD (b : UInt8) : digS.contains b = isD b := by
 have := isD_all ⟨b.toNat,b.toNat_lt⟩
 simpa using this
theorem trimD (s : ByteArray) : decide ((⟨(Lib.trimS s.data.toList digS).toArray⟩ : ByteArray) = ⟨#[]⟩) = s.data.toList.all isD := by
 have h := trimS_nil s.data.toList digS
 rw [show (fun x => digS.contains x) = isD from funext digS_isD] at h
 rw [← h]
 cases hq : Lib.trimS s.data.toList digS <;> simp
theorem numOk_eq {s : ByteArray} {b : UInt8} (h1 : 1 ≤ s.size) (h2 : s.size ≤ 10) (hb : s.data.toList[0]? = some b) :
  numOk s.data.toList = (decide ((⟨(Lib.trimS s.data.toList digS).toArray⟩ : ByteArray) = ⟨#[]⟩) && !(decide ((b.toNat : Int) = 48) && !decide (s = ⟨#[48]⟩))) := by
 rw [trimD]
 have hsz : s.size = s.data.toList.length := by simp
 unfold numOk
 rw [decide_eq_true (show 1 ≤ s.data.toList.length by omega),decide_eq_true (show s.data.toList.length ≤ 10 by omega),Bool.true_and,Bool.true_and]
 congr 1
 have e1 : decide (s.data.toList = [48]) = decide (s = ⟨#[48]⟩) := by
  rw [decide_eq_decide]
  exact ⟨fun h => bytes_ext h,fun h => by rw [h]⟩
 have e2 : decide (s.data.toList.head? ≠ some 48) = !decide ((b.toNat : Int) = 48) := by
  rw [← List.head?_eq_getElem?] at hb
  rw [hb,← decide_not,decide_eq_decide]
  refine not_congr ⟨fun h => ?_,fun h => ?_⟩
  ·have : b = 48 := Option.some.inj h
   rw [this];rfl
  ·have : b.toNat = (48 : UInt8).toNat := by
    have h48 : (48 : UInt8).toNat = 48 := rfl
    omega
   rw [UInt8.toNat_inj.1 this]
 rw [e1,e2]
 cases decide ((b.toNat : Int) = 48) <;> cases decide (s = ⟨#[48]⟩) <;> rfl
end Go.Proofs.YtagkdifaldikgaaGreatDoor
namespace Go.Proofs.YtagkdifaldikgaaGreatDoor
open Go.RowKit Go.Shelf
set_option linter.unusedVariables false
set_option linter.unusedSimpArgs false
set_option maxRecDepth 100000

theorem next2_f (c : Int) : FRet Tryz.prog 30 [.f (.int .u8 c)] [.c (.v (.bool (nameB c)))] := by
 refine FCall.of_ax low_graph_reader_next_c2 ?_
 dsimp only [l_graph_reader_next_c2]
 refine srun_sound 300 _ _ _ _ ?_
 unfold nameB inRg
 generalize hb1 : decide (97 ≤ c) = b1
 generalize hb2 : decide (c ≤ 122) = b2
 generalize hb3 : decide (48 ≤ c) = b3
 generalize hb4 : decide (c ≤ 57) = b4
 generalize hb5 : decide (c = 95) = b5
 repeat' (first
  | (simp -implicitDefEqProofs only [*,zr,Nat.reduceAdd,Nat.reduceSub,Nat.reduceMul,Nat.reduceLT,Nat.reduceLeDiff,Nat.reduceEqDiff,Nat.reduceBEq,reduceIte,reduceCtorEq,Int.reduceLE,Int.reduceLT,Int.reduceToNat,Int.reduceEq,Int.reduceNe])
  | ((first|apply zk0|apply zk1|apply zk2|apply zk3|apply zk4|apply zk5|apply zk6|apply zk7|apply zk8|apply zk9) <;> intro hc)
  |(refine callP0 rfl ?_)
  |(refine callD0 rfl ?_)
  | fail)
 all_goals exact ret_ve (by simp [*])
theorem next4_f (c : Int) : FRet Tryz.prog 34 [.f (.int .u8 c)] [.c (.v (.bool (inRg c 48 57)))] := by
 refine FCall.of_ax low_graph_reader_next_c4 ?_
 dsimp only [l_graph_reader_next_c4]
 refine srun_sound 300 _ _ _ _ ?_
 unfold inRg
 generalize hb3 : decide (48 ≤ c) = b3
 generalize hb4 : decide (c ≤ 57) = b4
 repeat' (first
  | (simp -implicitDefEqProofs only [*,zr,Nat.reduceAdd,Nat.reduceSub,Nat.reduceMul,Nat.reduceLT,Nat.reduceLeDiff,Nat.reduceEqDiff,Nat.reduceBEq,reduceIte,reduceCtorEq,Int.reduceLE,Int.reduceLT,Int.reduceToNat,Int.reduceEq,Int.reduceNe])
  | ((first|apply zk0|apply zk1|apply zk2|apply zk3|apply zk4|apply zk5|apply zk6|apply zk7|apply zk8|apply zk9) <;> intro hc)
  |(refine callP0 rfl ?_)
  |(refine callD0 rfl ?_)
  | fail)
 all_goals exact ret_ve (by simp [*])
def lbI (c : Int) : Bool := nameB c || (inRg c 65 90 || decide (0 ≤ ixB ⟨#[47,58,46,45,43]⟩ c.toNat.toUInt8))
theorem next3_f (c : Int) : FRet Tryz.prog 32 [.f (.int .u8 c),.f (.fp [.fn (.func 30)])] [.c (.v (.bool (lbI c)))] := by
 have k2 := next2_f c
 unfold lbI inRg
 generalize nameB c = b0 at *
 refine FCall.of_ax low_graph_reader_next_c3 ?_
 dsimp only [l_graph_reader_next_c3]
 refine srun_sound 300 _ _ _ _ ?_
 generalize hb1 : decide (65 ≤ c) = b1
 generalize hb2 : decide (c ≤ 90) = b2
 repeat' (first
  | (simp -implicitDefEqProofs only [*,zr,Nat.reduceAdd,Nat.reduceSub,Nat.reduceMul,Nat.reduceLT,Nat.reduceLeDiff,Nat.reduceEqDiff,Nat.reduceBEq,reduceIte,reduceCtorEq,Int.reduceLE,Int.reduceLT,Int.reduceToNat,Int.reduceEq,Int.reduceNe])
  | ((first|apply zk0|apply zk1|apply zk2|apply zk3|apply zk4|apply zk5|apply zk6|apply zk7|apply zk8|apply zk9) <;> intro hc)
  |(refine callP0 rfl ?_)
  |(refine callD0 rfl ?_)
  |(refine cP (k2) ?_)
  |(refine cD (k2) ?_)
  |(refine cF (k2) ?_)
  |(refine cP (indexByte_f ⟨#[47,58,46,45,43]⟩ c) ?_)
  |(refine cD (indexByte_f ⟨#[47,58,46,45,43]⟩ c) ?_)
  |(refine cF (indexByte_f ⟨#[47,58,46,45,43]⟩ c) ?_)
  | fail)
 all_goals exact ret_ve (by simp [*])
theorem byte_all : ∀ n : _root_.Fin 256,nameB (UInt8.ofNat n.val).toNat = isSm (UInt8.ofNat n.val) ∧ inRg (UInt8.ofNat n.val).toNat 48 57 = isDg (UInt8.ofNat n.val) ∧ lbI (UInt8.ofNat n.val).toNat = isLb (UInt8.ofNat n.val) := by decide +kernel
theorem byte_is (b : UInt8) : nameB b.toNat = isSm b ∧ inRg b.toNat 48 57 = isDg b ∧ lbI b.toNat = isLb b := by
 have := byte_all ⟨b.toNat,b.toNat_lt⟩
 simpa using this
theorem numW_eq {s : ByteArray} {b : UInt8} (h1 : 1 ≤ s.size) (h2 : s.size ≤ 9) (hb : s.data.toList[0]? = some b) :
  numW s.data.toList = (decide ((⟨(Lib.trimS s.data.toList digS).toArray⟩ : ByteArray) = ⟨#[]⟩) && !(decide ((b.toNat : Int) = 48) && !decide (s = ⟨#[48]⟩))) := by
 rw [← numOk_eq h1 (by omega) hb]
 have hsz : s.size = s.data.toList.length := by simp
 unfold numW numOk
 rw [decide_eq_true (show s.data.toList.length ≤ 9 by omega),decide_eq_true (show s.data.toList.length ≤ 10 by omega)]
theorem isNumber_f (s : ByteArray) (hs : s.size ≤ 140737488355328) : FRet Tryz.prog 65 [.f (.str s)] [.c (.v (.bool (numW s.data.toList)))] := by
 have k1 := trimD_f s (by omega)
 have hsz : s.size = s.data.toList.length := by simp
 rcases Nat.lt_or_ge s.size 1 with h | h
 ·have e : numW s.data.toList = false := by unfold numW;rw [decide_eq_false (by omega)];rfl
  rw [e]
  have h1 : decide ((1 : Int) ≤ s.size) = false := decide_eq_false (by omega)
  replace k1 := hide k1
  clear e hsz
  refine FCall.of_ax low_graph_isNumber ?_
  dsimp only [l_graph_isNumber]
  refine srun_sound 300 _ _ _ _ ?_
  repeat' (first
   | (simp -implicitDefEqProofs only [*,zr,Nat.reduceAdd,Nat.reduceSub,Nat.reduceMul,Nat.reduceLT,Nat.reduceLeDiff,Nat.reduceEqDiff,Nat.reduceBEq,reduceIte,reduceCtorEq,Int.reduceLE,Int.reduceLT,Int.reduceToNat,Int.reduceEq,Int.reduceNe])
   | ((first|apply zk0|apply zk1|apply zk2|apply zk3|apply zk4|apply zk5|apply zk6|apply zk7|apply zk8|apply zk9) <;> intro hc)
   |(refine callP0 rfl ?_)
   |(refine callD0 rfl ?_)
   |(refine cP (k1.out) ?_)
   |(refine cD (k1.out) ?_)
   |(refine cF (k1.out) ?_)
   | fail)
  exact ret_v
 have h1 : decide ((1 : Int) ≤ s.size) = true := decide_eq_true (by omega)
 rcases Nat.lt_or_ge 9 s.size with h9 | h9
 ·have e : numW s.data.toList = false := by unfold numW;rw [decide_eq_false (show ¬ s.data.toList.length ≤ 9 by omega)];simp
  rw [e]
  have h2 : decide ((s.size : Int) ≤ 9) = false := decide_eq_false (by omega)
  replace k1 := hide k1
  clear e hsz
  refine FCall.of_ax low_graph_isNumber ?_
  dsimp only [l_graph_isNumber]
  refine srun_sound 300 _ _ _ _ ?_
  repeat' (first
   | (simp -implicitDefEqProofs only [*,zr,Nat.reduceAdd,Nat.reduceSub,Nat.reduceMul,Nat.reduceLT,Nat.reduceLeDiff,Nat.reduceEqDiff,Nat.reduceBEq,reduceIte,reduceCtorEq,Int.reduceLE,Int.reduceLT,Int.reduceToNat,Int.reduceEq,Int.reduceNe])
   | ((first|apply zk0|apply zk1|apply zk2|apply zk3|apply zk4|apply zk5|apply zk6|apply zk7|apply zk8|apply zk9) <;> intro hc)
   |(refine callP0 rfl ?_)
   |(refine callD0 rfl ?_)
   |(refine cP (k1.out) ?_)
   |(refine cD (k1.out) ?_)
   |(refine cF (k1.out) ?_)
   | fail)
  exact ret_v
 have h2 : decide ((s.size : Int) ≤ 9) = true := decide_eq_true (by omega)
 obtain ⟨b,hb⟩ := byte_at (p := s) (i := 0) (by omega)
 rw [numW_eq h h9 hb]
 generalize hq : decide ((⟨(Lib.trimS s.data.toList digS).toArray⟩ : ByteArray) = ⟨#[]⟩) = q
 generalize hx : decide ((b.toNat : Int) = 48) = x
 generalize hy : decide (s = ⟨#[48]⟩) = y
 have h0 : decide ((0 : Int) < s.size) = true := decide_eq_true (by omega)
 have h00 : decide (0 < s.size) = true := decide_eq_true (by omega)
 generalize (⟨(Lib.trimS s.data.toList digS).toArray⟩ : ByteArray) = T at *
 replace k1 := hide k1
 clear hsz
 refine FCall.of_ax low_graph_isNumber ?_
 dsimp only [l_graph_isNumber]
 refine srun_sound 300 _ _ _ _ ?_
 repeat' (first
  | (simp -implicitDefEqProofs only [*,Int.le_refl,Int.toNat_zero,zr,Nat.reduceAdd,Nat.reduceSub,Nat.reduceMul,Nat.reduceLT,Nat.reduceLeDiff,Nat.reduceEqDiff,Nat.reduceBEq,reduceIte,reduceCtorEq,Int.reduceLE,Int.reduceLT,Int.reduceToNat,Int.reduceEq,Int.reduceNe])
  | ((first|apply zk0|apply zk1|apply zk2|apply zk3|apply zk4|apply zk5|apply zk6|apply zk7|apply zk8|apply zk9) <;> intro hc)
  |(refine callP0 rfl ?_)
  |(refine callD0 rfl ?_)
  |(refine cP (k1.out) ?_)
  |(refine cD (k1.out) ?_)
  |(refine cF (k1.out) ?_)
  | fail)
 all_goals exact ret_ve (by simp [*])
theorem same_query (q : QT) (hb : QB q) : FRet Tryz.prog 6 [aQ q,aQ q] [.c (.v (.bool true))] := by
 revert hb
 revert q
 refine QT.ind fun k t n ps ih hb => ?_
 rw [QB] at hb
 obtain ⟨⟨hb1,hb2⟩,hb3⟩ := hb
 have hl := encQs_len ps
 have hk : ∀ p ∈ ps,FRet Tryz.prog 6 [aQ p,aQ p] [.c (.v (.bool true))] := fun p hp => ih p hp (QBs_mem hb3 p hp)
 clear ih
 refine FCall.of_ax low_ref4_SameQuery ?_
 dsimp only [l_ref4_SameQuery,aQ,encQ,List.map]
 have dk : decide (k = k) = true := decide_eq_true rfl
 have dt : decide (t = t) = true := decide_eq_true rfl
 have dn : decide (n = n) = true := decide_eq_true rfl
 have dl : decide (((encQs ps).length : Int) = ((encQs ps).length : Int)) = true := decide_eq_true rfl
 refine srun_sound 300 _ _ _ _ ?_
 replace hk := hide hk
 clear hb3
 repeat' (first
  | (simp -implicitDefEqProofs only [*,zr,Nat.reduceAdd,Nat.reduceSub,Nat.reduceMul,Nat.reduceLT,Nat.reduceLeDiff,Nat.reduceEqDiff,Nat.reduceBEq,reduceIte,reduceCtorEq,Int.reduceLE,Int.reduceLT,Int.reduceToNat,Int.reduceEq,Int.reduceNe])
  | ((first|apply zk0|apply zk1|apply zk2|apply zk3|apply zk4|apply zk5|apply zk6|apply zk7|apply zk8|apply zk9) <;> intro hc)
  |(refine callP0 rfl ?_)
  |(refine callD0 rfl ?_)
  | fail)
 refine ax_loopU (S := Nat) 53 [2,3] [2,3] (fun s => [(5,.f (.int .i64 s))]) (fun s => []) (fun s => s ≤ ps.length) (fun s => ps.length - s) (0) [] ?_ ?_ fun s hs => ?_
 ·exact Nat.zero_le _
 ·refine wk_i ?_ ?_ <;> simp only [zw,Nat.reduceEqDiff,Nat.reduceBEq,Nat.reduceLT,Nat.reduceLeDiff,reduceIte,reduceCtorEq]
 refine srun_sound 300 _ _ _ _ ?_
 rcases Nat.lt_or_ge s ps.length with hlt | hge
 ·obtain ⟨p,hp⟩ := get_some hlt
  have h4 := inc64 hlt (by omega)
  have h2 := lt_t hlt
  have he := encQs_at hp
  have ks := hk.out p (List.mem_of_getElem? hp)
  generalize encQs ps = E at *
  obtain ⟨pk,pt,pn,pps⟩ := p
  dsimp only [aQ,encQ,List.map] at ks he
  replace hp := hide hp
  repeat' (first
   | (simp -implicitDefEqProofs only [*,zr,Nat.reduceAdd,Nat.reduceSub,Nat.reduceMul,Nat.reduceLT,Nat.reduceLeDiff,Nat.reduceEqDiff,Nat.reduceBEq,reduceIte,reduceCtorEq,Int.reduceLE,Int.reduceLT,Int.reduceToNat,Int.reduceEq,Int.reduceNe])
   | ((first|apply zk0|apply zk1|apply zk2|apply zk3|apply zk4|apply zk5|apply zk6|apply zk7|apply zk8|apply zk9) <;> intro hc)
   |(refine callP0 rfl ?_)
   |(refine callD0 rfl ?_)
   |(refine cP (ks) ?_)
   |(refine cD (ks) ?_)
   |(refine cF (ks) ?_)
   | fail)
  refine ⟨s + 1,hlt,by omega,?_⟩
  refine wk_i ?_ ?_ <;> simp only [zw,Nat.reduceEqDiff,Nat.reduceBEq,Nat.reduceLT,Nat.reduceLeDiff,reduceIte,reduceCtorEq]
 ·obtain rfl : s = ps.length := by omega
  have h2 := lt_f hge
  repeat' (first
   | (simp -implicitDefEqProofs only [*,zr,Nat.reduceAdd,Nat.reduceSub,Nat.reduceMul,Nat.reduceLT,Nat.reduceLeDiff,Nat.reduceEqDiff,Nat.reduceBEq,reduceIte,reduceCtorEq,Int.reduceLE,Int.reduceLT,Int.reduceToNat,Int.reduceEq,Int.reduceNe])
   | ((first|apply zk0|apply zk1|apply zk2|apply zk3|apply zk4|apply zk5|apply zk6|apply zk7|apply zk8|apply zk9) <;> intro hc)
   |(refine callP0 rfl ?_)
   |(refine callD0 rfl ?_)
   | fail)
  exact ret_v
end Go.Proofs.YtagkdifaldikgaaGreatDoor
