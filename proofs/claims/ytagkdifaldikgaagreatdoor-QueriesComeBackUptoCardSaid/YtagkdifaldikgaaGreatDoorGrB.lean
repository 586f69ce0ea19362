/-
  Paths, labels, names, patterns of packages on the machine. No statement of the seat is proved here; no conditions.
-/
import Derived.Test.YtagkdifaldikgaaGreatDoorGrA
namespace Go.Proofs.YtagkdifaldikgaaGreatDoor
open Go.RowKit Go.Shelf
set_option linter.unusedVariables false
set_option linter.unusedSimpArgs false
set_option maxRecDepth 100000

def inRg (n l h : Int) : Bool := decide (l ≤ n) && decide (n ≤ h)
def inPartV (c : Int) : Bool := inRg c 97 122 || inRg c 65 90 || inRg c 48 57 || decide (0 ≤ ixB ⟨#[46,95,45,43]⟩ c.toNat.toUInt8)
theorem inPart_f (c : Int) : FRet Tryz.prog 91 [.f (.int .u8 c)] [.c (.v (.bool (inPartV c)))] := by
 refine FCall.of_ax low_blob_inPart ?_
 dsimp only [l_blob_inPart]
 refine srun_sound 300 _ _ _ _ ?_
 unfold inPartV inRg
 generalize hb1 : decide (97 ≤ c) = b1
 generalize hb2 : decide (c ≤ 122) = b2
 generalize hb3 : decide (65 ≤ c) = b3
 generalize hb4 : decide (c ≤ 90) = b4
 generalize hb5 : decide (48 ≤ c) = b5
 generalize hb6 : decide (c ≤ 57) = b6
 repeat' (first
  | (simp -implicitDefEqProofs only [*,zr,Nat.reduceAdd,Nat.reduceSub,Nat.reduceMul,Nat.reduceLT,Nat.reduceLeDiff,Nat.reduceEqDiff,Nat.reduceBEq,reduceIte,reduceCtorEq,Int.reduceLE,Int.reduceLT,Int.reduceToNat,Int.reduceEq,Int.reduceNe])
  | ((first|apply zk0|apply zk1|apply zk2|apply zk3|apply zk4|apply zk5|apply zk6|apply zk7|apply zk8|apply zk9) <;> intro hc)
  |(refine callP0 rfl ?_)
  |(refine callD0 rfl ?_)
  |(refine cP (indexByte_f ⟨#[46,95,45,43]⟩ c) ?_)
  |(refine cD (indexByte_f ⟨#[46,95,45,43]⟩ c) ?_)
  |(refine cF (indexByte_f ⟨#[46,95,45,43]⟩ c) ?_)
  | fail)
 all_goals exact ret_ve (by simp [*])
def isPartV (p : ByteArray) : Bool := p.data.toList.all (fun b => inPartV b.toNat) && (!decide (p = ⟨#[]⟩) && (!decide (p = ⟨#[46]⟩) && !decide (p = ⟨#[46,46]⟩)))
theorem bytes_len (p : ByteArray) : p.data.toList.length = p.size := by simp
theorem byte_at {p : ByteArray} {i : Nat} (h : i < p.size) : ∃ b,p.data.toList[i]? = some b := get_some (by rw [bytes_len];exact h)
theorem all_of {α : Type} {l : List α} {f : α → Bool} (h : ∀ (k : Nat) b,k < l.length → l[k]? = some b → f b = true) : l.all f = true := by
 rw [List.all_eq_true]
 intro x hx
 obtain ⟨k,hk⟩ := List.mem_iff_getElem?.1 hx
 exact h k x (List.getElem?_eq_some_iff.1 hk).1 hk
theorem all_no {α : Type} {l : List α} {f : α → Bool} {k : Nat} {b : α} (hb : l[k]? = some b) (h : f b = false) : l.all f = false := by
 rw [List.all_eq_false]
 exact ⟨b,List.mem_of_getElem? hb,by rw [h];simp⟩
theorem all_step {α : Type} {l : List α} {f : α → Bool} {i : Nat} {x : α} (h : ∀ (k : Nat) b,k < i → l[k]? = some b → f b = true) (hx : l[i]? = some x) (hf : f x = true) : ∀ (k : Nat) b,k < i + 1 → l[k]? = some b → f b = true := fun k b hk hb => by
 rcases Nat.lt_succ_iff_lt_or_eq.1 hk with h1 | rfl
 ·exact h k b h1 hb
 ·rw [hx] at hb;obtain rfl := Option.some.inj hb;exact hf
theorem isPart_f (p : ByteArray) (hs : (p.size : Int) ≤ 9223372036854775807) : FRet Tryz.prog 77 [.f (.str p)] [.c (.v (.bool (isPartV p)))] := by
 refine FCall.of_ax low_blob_isPart ?_
 dsimp only [l_blob_isPart]
 refine srun_sound 300 _ _ _ _ ?_
 repeat' (first
  | (simp -implicitDefEqProofs only [*,zr,Nat.reduceAdd,Nat.reduceSub,Nat.reduceMul,Nat.reduceLT,Nat.reduceLeDiff,Nat.reduceEqDiff,Nat.reduceBEq,reduceIte,reduceCtorEq,Int.reduceLE,Int.reduceLT,Int.reduceToNat,Int.reduceEq,Int.reduceNe])
  | ((first|apply zk0|apply zk1|apply zk2|apply zk3|apply zk4|apply zk5|apply zk6|apply zk7|apply zk8|apply zk9) <;> intro hc)
  |(refine callP0 rfl ?_)
  |(refine callD0 rfl ?_)
  | fail)
 refine ax_loopU (S := Nat) 25 [0,5] [] (fun s => [(6,.f (.int .i64 s))]) (fun s => []) (fun s => s ≤ p.size ∧ ∀ (k : Nat) (b : UInt8),k < s → p.data.toList[k]? = some b → inPartV b.toNat = true) (fun s => p.size - s) (0) [] ?_ ?_ fun s hs => ?_
 ·exact ⟨Nat.zero_le _,fun k b h => absurd h (by omega)⟩
 ·refine wk_i ?_ ?_ <;> simp only [zw,Nat.reduceEqDiff,Nat.reduceBEq,Nat.reduceLT,Nat.reduceLeDiff,reduceIte,reduceCtorEq]
 obtain ⟨hi,hall⟩ := hs
 refine srun_sound 300 _ _ _ _ ?_
 have hA := hide hall
 clear hall
 rcases Nat.lt_or_ge s p.size with hlt | hge
 ·obtain ⟨b,hb⟩ := byte_at hlt
  have h4 := inc64 hlt (by assumption)
  have h2 := lt_t hlt
  cases hp : inPartV (b.toNat : Nat)
  ·have hf : isPartV p = false := by unfold isPartV;rw [all_no hb hp];rfl
   rw [hf]
   repeat' (first
    | (simp -implicitDefEqProofs only [*,zr,Nat.reduceAdd,Nat.reduceSub,Nat.reduceMul,Nat.reduceLT,Nat.reduceLeDiff,Nat.reduceEqDiff,Nat.reduceBEq,reduceIte,reduceCtorEq,Int.reduceLE,Int.reduceLT,Int.reduceToNat,Int.reduceEq,Int.reduceNe])
    | ((first|apply zk0|apply zk1|apply zk2|apply zk3|apply zk4|apply zk5|apply zk6|apply zk7|apply zk8|apply zk9) <;> intro hc)
    |(refine callP0 rfl ?_)
    |(refine callD0 rfl ?_)
    |(refine cP (inPart_f _) ?_)
    |(refine cD (inPart_f _) ?_)
    |(refine cF (inPart_f _) ?_)
    | fail)
   exact ret_v
  ·repeat' (first
    | (simp -implicitDefEqProofs only [*,zr,Nat.reduceAdd,Nat.reduceSub,Nat.reduceMul,Nat.reduceLT,Nat.reduceLeDiff,Nat.reduceEqDiff,Nat.reduceBEq,reduceIte,reduceCtorEq,Int.reduceLE,Int.reduceLT,Int.reduceToNat,Int.reduceEq,Int.reduceNe])
    | ((first|apply zk0|apply zk1|apply zk2|apply zk3|apply zk4|apply zk5|apply zk6|apply zk7|apply zk8|apply zk9) <;> intro hc)
    |(refine callP0 rfl ?_)
    |(refine callD0 rfl ?_)
    |(refine cP (inPart_f _) ?_)
    |(refine cD (inPart_f _) ?_)
    |(refine cF (inPart_f _) ?_)
    | fail)
   refine ⟨s + 1,⟨hlt,all_step (f := fun b : UInt8 => inPartV b.toNat) hA.out hb hp⟩,by omega,?_⟩
   refine wk_i ?_ ?_ <;> simp only [zw,Nat.reduceEqDiff,Nat.reduceBEq,Nat.reduceLT,Nat.reduceLeDiff,reduceIte,reduceCtorEq]
 ·obtain rfl : s = p.size := by omega
  have h2 := lt_f hge
  have ha := all_of (l := p.data.toList) (f := fun b : UInt8 => inPartV b.toNat) (fun k b hk hb => hA.out k b (by rw [← bytes_len];exact hk) hb)
  have hf : isPartV p = (!decide (p = ⟨#[]⟩) && (!decide (p = ⟨#[46]⟩) && !decide (p = ⟨#[46,46]⟩))) := by unfold isPartV;rw [ha,Bool.true_and]
  rw [hf]
  clear hf ha
  generalize e1 : decide (p = ⟨#[]⟩) = d1
  generalize e2 : decide (p = ⟨#[46]⟩) = d2
  generalize e3 : decide (p = ⟨#[46,46]⟩) = d3
  cases d1 <;> cases d2
  repeat' (first
   | (simp -implicitDefEqProofs only [*,zr,Nat.reduceAdd,Nat.reduceSub,Nat.reduceMul,Nat.reduceLT,Nat.reduceLeDiff,Nat.reduceEqDiff,Nat.reduceBEq,reduceIte,reduceCtorEq,Int.reduceLE,Int.reduceLT,Int.reduceToNat,Int.reduceEq,Int.reduceNe])
   | ((first|apply zk0|apply zk1|apply zk2|apply zk3|apply zk4|apply zk5|apply zk6|apply zk7|apply zk8|apply zk9) <;> intro hc)
   |(refine callP0 rfl ?_)
   |(refine callD0 rfl ?_)
   | fail)
  all_goals exact ret_ve (by simp)
theorem piece_le (c : ByteArray) : ∀ (k : Nat) (s : ByteArray),∀ q ∈ Lib.splitB c 0 k s,q.size ≤ s.size
 | 0,s,q,h => by
  rw [Lib.splitB_zero] at h
  have : q = s := by simpa using h
  rw [this];exact Nat.le_refl _
 | k + 1,s,q,h => by
  unfold Lib.splitB at h
  split at h
  ·have : q = s := by simpa using h
   rw [this];exact Nat.le_refl _
  ·rcases List.mem_cons.1 h with rfl | h
   ·rw [ByteArray.size_extract];omega
   ·have := piece_le c k _ q h
    rw [ByteArray.size_extract] at this;omega
def isPathV (p : ByteArray) : Bool := !(decide ((p.size : Int) < 1) || decide ((200 : Int) < p.size)) && (splitS p 47).all isPartV
theorem isPath_f (p : ByteArray) : FRet Tryz.prog 55 [.f (.str p)] [.c (.v (.bool (isPathV p)))] := by
 refine FCall.of_ax low_blob_IsPath ?_
 dsimp only [l_blob_IsPath]
 refine srun_sound 300 _ _ _ _ ?_
 unfold isPathV
 by_cases h1 : (p.size : Int) < 1
 ·have d1 := dec_t h1
  repeat' (first
   | (simp -implicitDefEqProofs only [*,zr,Nat.reduceAdd,Nat.reduceSub,Nat.reduceMul,Nat.reduceLT,Nat.reduceLeDiff,Nat.reduceEqDiff,Nat.reduceBEq,reduceIte,reduceCtorEq,Int.reduceLE,Int.reduceLT,Int.reduceToNat,Int.reduceEq,Int.reduceNe])
   | ((first|apply zk0|apply zk1|apply zk2|apply zk3|apply zk4|apply zk5|apply zk6|apply zk7|apply zk8|apply zk9) <;> intro hc)
   |(refine callP0 rfl ?_)
   |(refine callD0 rfl ?_)
   | fail)
  exact ret_ve (by simp [d1])
 have d1 := dec_f h1
 by_cases h2 : (200 : Int) < p.size
 ·have d2 := dec_t h2
  repeat' (first
   | (simp -implicitDefEqProofs only [*,zr,Nat.reduceAdd,Nat.reduceSub,Nat.reduceMul,Nat.reduceLT,Nat.reduceLeDiff,Nat.reduceEqDiff,Nat.reduceBEq,reduceIte,reduceCtorEq,Int.reduceLE,Int.reduceLT,Int.reduceToNat,Int.reduceEq,Int.reduceNe])
   | ((first|apply zk0|apply zk1|apply zk2|apply zk3|apply zk4|apply zk5|apply zk6|apply zk7|apply zk8|apply zk9) <;> intro hc)
   |(refine callP0 rfl ?_)
   |(refine callD0 rfl ?_)
   | fail)
  exact ret_ve (by simp [d2])
 have d2 := dec_f h2
 rw [d1,d2]
 simp only [Bool.or_self,Bool.not_false,Bool.true_and]
 have hS := split_f p 47 (by omega)
 have hle : ∀ q ∈ splitS p 47,q.size ≤ p.size := piece_le (sep 47) _ p
 have hln : (splitS p 47).length ≤ 300 := by
  rw [splitS_len]
  have := Lib.countB_le (sep 47) (by show 1 ≤ 1;decide) p.size p (Nat.le_refl _)
  omega
 generalize splitS p 47 = l at *
 replace hS := hide hS
 replace hle := hide hle
 repeat' (first
  | (simp -implicitDefEqProofs only [*,frStrs,zr,Nat.reduceAdd,Nat.reduceSub,Nat.reduceMul,Nat.reduceLT,Nat.reduceLeDiff,Nat.reduceEqDiff,Nat.reduceBEq,reduceIte,reduceCtorEq,Int.reduceLE,Int.reduceLT,Int.reduceToNat,Int.reduceEq,Int.reduceNe])
  | ((first|apply zk0|apply zk1|apply zk2|apply zk3|apply zk4|apply zk5|apply zk6|apply zk7|apply zk8|apply zk9) <;> intro hc)
  |(refine callP0 rfl ?_)
  |(refine callD0 rfl ?_)
  |(refine cP (hS.out) ?_)
  |(refine cD (hS.out) ?_)
  |(refine cF (hS.out) ?_)
  | fail)
 refine ax_loopU (S := Nat) 24 [14,15] [] (fun s => [(16,.f (.int .i64 s))]) (fun s => []) (fun s => s ≤ l.length ∧ ∀ (k : Nat) (b : ByteArray),k < s → l[k]? = some b → isPartV b = true) (fun s => l.length - s) (0) [] ?_ ?_ fun s hs => ?_
 ·exact ⟨Nat.zero_le _,fun k b h => absurd h (by omega)⟩
 ·refine wk_i ?_ ?_ <;> simp only [zw,Nat.reduceEqDiff,Nat.reduceBEq,Nat.reduceLT,Nat.reduceLeDiff,reduceIte,reduceCtorEq]
 obtain ⟨hi,hall⟩ := hs
 refine srun_sound 300 _ _ _ _ ?_
 have hA := hide hall
 clear hall
 rcases Nat.lt_or_ge s l.length with hlt | hge
 ·obtain ⟨b,hb⟩ := get_some hlt
  have h4 := inc64 hlt (by omega)
  have h3 := lt_t hlt
  have hbs := hle.out b (List.mem_of_getElem? hb)
  cases hp : isPartV b
  ·rw [all_no hb hp]
   repeat' (first
    | (simp -implicitDefEqProofs only [*,List.getElem?_map,Option.map_some,zr,Nat.reduceAdd,Nat.reduceSub,Nat.reduceMul,Nat.reduceLT,Nat.reduceLeDiff,Nat.reduceEqDiff,Nat.reduceBEq,reduceIte,reduceCtorEq,Int.reduceLE,Int.reduceLT,Int.reduceToNat,Int.reduceEq,Int.reduceNe])
    | ((first|apply zk0|apply zk1|apply zk2|apply zk3|apply zk4|apply zk5|apply zk6|apply zk7|apply zk8|apply zk9) <;> intro hc)
    |(refine callP0 rfl ?_)
    |(refine callD0 rfl ?_)
    |(refine cP (isPart_f b (by omega)) ?_)
    |(refine cD (isPart_f b (by omega)) ?_)
    |(refine cF (isPart_f b (by omega)) ?_)
    | fail)
   exact ret_v
  ·repeat' (first
    | (simp -implicitDefEqProofs only [*,List.getElem?_map,Option.map_some,zr,Nat.reduceAdd,Nat.reduceSub,Nat.reduceMul,Nat.reduceLT,Nat.reduceLeDiff,Nat.reduceEqDiff,Nat.reduceBEq,reduceIte,reduceCtorEq,Int.reduceLE,Int.reduceLT,Int.reduceToNat,Int.reduceEq,Int.reduceNe])
    | ((first|apply zk0|apply zk1|apply zk2|apply zk3|apply zk4|apply zk5|apply zk6|apply zk7|apply zk8|apply zk9) <;> intro hc)
    |(refine callP0 rfl ?_)
    |(refine callD0 rfl ?_)
    |(refine cP (isPart_f b (by omega)) ?_)
    |(refine cD (isPart_f b (by omega)) ?_)
    |(refine cF (isPart_f b (by omega)) ?_)
    | fail)
   refine ⟨s + 1,⟨hlt,all_step hA.out hb hp⟩,by omega,?_⟩
   refine wk_i ?_ ?_ <;> simp only [zw,Nat.reduceEqDiff,Nat.reduceBEq,Nat.reduceLT,Nat.reduceLeDiff,reduceIte,reduceCtorEq]
 ·obtain rfl : s = l.length := by omega
  have h3 := lt_f hge
  rw [all_of hA.out]
  repeat' (first
   | (simp -implicitDefEqProofs only [*,zr,Nat.reduceAdd,Nat.reduceSub,Nat.reduceMul,Nat.reduceLT,Nat.reduceLeDiff,Nat.reduceEqDiff,Nat.reduceBEq,reduceIte,reduceCtorEq,Int.reduceLE,Int.reduceLT,Int.reduceToNat,Int.reduceEq,Int.reduceNe])
   | ((first|apply zk0|apply zk1|apply zk2|apply zk3|apply zk4|apply zk5|apply zk6|apply zk7|apply zk8|apply zk9) <;> intro hc)
   |(refine callP0 rfl ?_)
   |(refine callD0 rfl ?_)
   | fail)
  exact ret_v
def ckLab (a b : ByteArray) : Bool := (decide (a = ⟨#[]⟩) || isPathV a) && isPathV b
theorem checkLabel_f (a b : ByteArray) : FRet Tryz.prog 73 [.agg [.f (.str a),.f (.str b)]] [.c (.v (.int .i64 (if ckLab a b = true then 0 else 3)))] := by
 refine FCall.of_ax low_script_CheckLabel ?_
 dsimp only [l_script_CheckLabel]
 refine srun_sound 300 _ _ _ _ ?_
 unfold ckLab
 have ha := isPath_f a
 have hb := isPath_f b
 generalize isPathV a = pa at *
 generalize isPathV b = pb at *
 replace ha := hide ha
 replace hb := hide hb
 cases hd : decide (a = ⟨#[]⟩) <;> cases pa <;> cases pb
 repeat' (first
  | (simp -implicitDefEqProofs only [*,zr,Nat.reduceAdd,Nat.reduceSub,Nat.reduceMul,Nat.reduceLT,Nat.reduceLeDiff,Nat.reduceEqDiff,Nat.reduceBEq,reduceIte,reduceCtorEq,Int.reduceLE,Int.reduceLT,Int.reduceToNat,Int.reduceEq,Int.reduceNe])
  | ((first|apply zk0|apply zk1|apply zk2|apply zk3|apply zk4|apply zk5|apply zk6|apply zk7|apply zk8|apply zk9) <;> intro hc)
  |(refine callP0 rfl ?_)
  |(refine callD0 rfl ?_)
  |(refine cP (ha.out) ?_)
  |(refine cD (ha.out) ?_)
  |(refine cF (ha.out) ?_)
  |(refine cP (hb.out) ?_)
  |(refine cD (hb.out) ?_)
  |(refine cF (hb.out) ?_)
  | fail)
 all_goals exact ret_ve (by simp)
def labOf (t : ByteArray) : ByteArray × ByteArray :=
 if hasPre t ⟨#[47,47]⟩ = true then ((cutS (cutPre t ⟨#[47,47]⟩) 58).1,if (cutS (cutPre t ⟨#[47,47]⟩) 58).2.2 = true then (cutS (cutPre t ⟨#[47,47]⟩) 58).2.1 else lastS (cutS (cutPre t ⟨#[47,47]⟩) 58).1)
 else if hasPre t ⟨#[58]⟩ = true then (⟨#[]⟩,cutPre t ⟨#[58]⟩) else (⟨#[]⟩,⟨#[]⟩)
def okLab (t : ByteArray) : Bool := ckLab (labOf t).1 (labOf t).2
theorem cutPre_le (s p : ByteArray) : (cutPre s p).size ≤ s.size := by
 unfold cutPre;split
 ·rw [ByteArray.size_extract];omega
 ·exact Nat.le_refl _
theorem cutS_le (s : ByteArray) (c : UInt8) : (cutS s c).1.size ≤ s.size ∧ (cutS s c).2.1.size ≤ s.size := by
 unfold cutS;split
 ·simp only [ByteArray.size_extract];omega
 ·exact ⟨Nat.le_refl _,Nat.zero_le _⟩
theorem retw_lab {a b : FV} {e : FV} {H : Heap} : Rets [.agg [.v a,.v b],.c (.v e)] (.tup [.agg [.f a,.f b],.f e]) H := ⟨[_,_],rfl,⟨⟨rfl,rfl,rfl⟩,rfl,rfl⟩,by simp [idsS,idsC]⟩
set_option maxHeartbeats 1000000 in
theorem readLabel_f (t : ByteArray) (ht : (t.size : Int) ≤ 140737488355328) : FRet Tryz.prog 47 [.f (.str t),.f (.str ⟨#[]⟩)] [.agg [.v (.str (if okLab t = true then (labOf t).1 else ⟨#[]⟩)),.v (.str (if okLab t = true then (labOf t).2 else ⟨#[]⟩))],.c (.v (.int .i64 (if okLab t = true then 0 else 10)))] := by
 refine FCall.of_ax low_script_ReadLabel ?_
 dsimp only [l_script_ReadLabel]
 refine srun_sound 300 _ _ _ _ ?_
 have k1 := cutPre_f t ⟨#[47,47]⟩
 have k2 := cutPre_f t ⟨#[58]⟩
 have kl := cutPre_le t ⟨#[47,47]⟩
 have hz : decide ((⟨#[]⟩ : ByteArray) = ⟨#[]⟩) = true := by decide
 unfold okLab labOf
 generalize hasPre t ⟨#[47,47]⟩ = w at *
 generalize hasPre t ⟨#[58]⟩ = o at *
 generalize cutPre t ⟨#[58]⟩ = nm at *
 generalize cutPre t ⟨#[47,47]⟩ = r at *
 replace k1 := hide k1
 replace k2 := hide k2
 cases w
 ·cases o
  ·have k5 := checkLabel_f ⟨#[]⟩ ⟨#[]⟩
   simp only [Bool.false_eq_true,if_false]
   generalize ckLab ⟨#[]⟩ ⟨#[]⟩ = c at *
   cases c <;> simp only [Bool.false_eq_true,if_false,if_true] at k5 ⊢ <;> replace k5 := hide k5
   repeat' (first
    | (simp -implicitDefEqProofs only [*,zr,Nat.reduceAdd,Nat.reduceSub,Nat.reduceMul,Nat.reduceLT,Nat.reduceLeDiff,Nat.reduceEqDiff,Nat.reduceBEq,reduceIte,reduceCtorEq,Int.reduceLE,Int.reduceLT,Int.reduceToNat,Int.reduceEq,Int.reduceNe])
    | ((first|apply zk0|apply zk1|apply zk2|apply zk3|apply zk4|apply zk5|apply zk6|apply zk7|apply zk8|apply zk9) <;> intro hc)
    |(refine callP0 rfl ?_)
    |(refine callD0 rfl ?_)
    |(refine cP (k1.out) ?_)
    |(refine cD (k1.out) ?_)
    |(refine cF (k1.out) ?_)
    |(refine cP (k2.out) ?_)
    |(refine cD (k2.out) ?_)
    |(refine cF (k2.out) ?_)
    |(refine cP (k5.out) ?_)
    |(refine cD (k5.out) ?_)
    |(refine cF (k5.out) ?_)
    | fail)
   all_goals exact retw_lab
  ·have k5 := checkLabel_f ⟨#[]⟩ nm
   simp only [Bool.false_eq_true,if_false,if_true]
   generalize ckLab ⟨#[]⟩ nm = c at *
   cases c <;> simp only [Bool.false_eq_true,if_false,if_true] at k5 ⊢ <;> replace k5 := hide k5
   repeat' (first
    | (simp -implicitDefEqProofs only [*,zr,Nat.reduceAdd,Nat.reduceSub,Nat.reduceMul,Nat.reduceLT,Nat.reduceLeDiff,Nat.reduceEqDiff,Nat.reduceBEq,reduceIte,reduceCtorEq,Int.reduceLE,Int.reduceLT,Int.reduceToNat,Int.reduceEq,Int.reduceNe])
    | ((first|apply zk0|apply zk1|apply zk2|apply zk3|apply zk4|apply zk5|apply zk6|apply zk7|apply zk8|apply zk9) <;> intro hc)
    |(refine callP0 rfl ?_)
    |(refine callD0 rfl ?_)
    |(refine cP (k1.out) ?_)
    |(refine cD (k1.out) ?_)
    |(refine cF (k1.out) ?_)
    |(refine cP (k2.out) ?_)
    |(refine cD (k2.out) ?_)
    |(refine cF (k2.out) ?_)
    |(refine cP (k5.out) ?_)
    |(refine cD (k5.out) ?_)
    |(refine cF (k5.out) ?_)
    | fail)
   all_goals exact retw_lab
 ·have k3 := cut_f1 r 58 (by omega)
  have kc := (cutS_le r 58).1
  generalize cutS r 58 = x at *
  obtain ⟨x1,x2,x3⟩ := x
  simp only at k3 kc ⊢
  replace k3 := hide k3
  cases x3
  ·have k4 := last_f x1 (by omega)
   generalize lastS x1 = y at *
   replace k4 := hide k4
   have k5 := checkLabel_f x1 y
   simp only [Bool.false_eq_true,if_false,if_true]
   generalize ckLab x1 y = c at *
   cases c <;> simp only [Bool.false_eq_true,if_false,if_true] at k5 ⊢ <;> replace k5 := hide k5
   repeat' (first
    | (simp -implicitDefEqProofs only [*,zr,Nat.reduceAdd,Nat.reduceSub,Nat.reduceMul,Nat.reduceLT,Nat.reduceLeDiff,Nat.reduceEqDiff,Nat.reduceBEq,reduceIte,reduceCtorEq,Int.reduceLE,Int.reduceLT,Int.reduceToNat,Int.reduceEq,Int.reduceNe])
    | ((first|apply zk0|apply zk1|apply zk2|apply zk3|apply zk4|apply zk5|apply zk6|apply zk7|apply zk8|apply zk9) <;> intro hc)
    |(refine callP0 rfl ?_)
    |(refine callD0 rfl ?_)
    |(refine cP (k1.out) ?_)
    |(refine cD (k1.out) ?_)
    |(refine cF (k1.out) ?_)
    |(refine cP (k2.out) ?_)
    |(refine cD (k2.out) ?_)
    |(refine cF (k2.out) ?_)
    |(refine cP (k3.out) ?_)
    |(refine cD (k3.out) ?_)
    |(refine cF (k3.out) ?_)
    |(refine cP (k4.out) ?_)
    |(refine cD (k4.out) ?_)
    |(refine cF (k4.out) ?_)
    |(refine cP (k5.out) ?_)
    |(refine cD (k5.out) ?_)
    |(refine cF (k5.out) ?_)
    | fail)
   all_goals exact retw_lab
  ·have k5 := checkLabel_f x1 x2
   simp only [Bool.false_eq_true,if_false,if_true]
   generalize ckLab x1 x2 = c at *
   cases c <;> simp only [Bool.false_eq_true,if_false,if_true] at k5 ⊢ <;> replace k5 := hide k5
   repeat' (first
    | (simp -implicitDefEqProofs only [*,zr,Nat.reduceAdd,Nat.reduceSub,Nat.reduceMul,Nat.reduceLT,Nat.reduceLeDiff,Nat.reduceEqDiff,Nat.reduceBEq,reduceIte,reduceCtorEq,Int.reduceLE,Int.reduceLT,Int.reduceToNat,Int.reduceEq,Int.reduceNe])
    | ((first|apply zk0|apply zk1|apply zk2|apply zk3|apply zk4|apply zk5|apply zk6|apply zk7|apply zk8|apply zk9) <;> intro hc)
    |(refine callP0 rfl ?_)
    |(refine callD0 rfl ?_)
    |(refine cP (k1.out) ?_)
    |(refine cD (k1.out) ?_)
    |(refine cF (k1.out) ?_)
    |(refine cP (k2.out) ?_)
    |(refine cD (k2.out) ?_)
    |(refine cF (k2.out) ?_)
    |(refine cP (k3.out) ?_)
    |(refine cD (k3.out) ?_)
    |(refine cF (k3.out) ?_)
    |(refine cP (k5.out) ?_)
    |(refine cD (k5.out) ?_)
    |(refine cF (k5.out) ?_)
    | fail)
   all_goals exact retw_lab
end Go.Proofs.YtagkdifaldikgaaGreatDoor
