/-
  Whole labels, names, patterns of packages, nodes on the machine. No statement of the seat is proved here; no conditions.
-/
import Derived.Test.YtagkdifaldikgaaGreatDoorGrB
namespace Go.Proofs.YtagkdifaldikgaaGreatDoor
open Go.RowKit Go.Shelf
set_option linter.unusedVariables false
set_option linter.unusedSimpArgs false
set_option maxRecDepth 100000

def wholeS (a b : ByteArray) : ByteArray := (⟨#[47,47]⟩ : ByteArray) ++ a ++ ⟨#[58]⟩ ++ b
theorem whole_f (a b : ByteArray) (h : ((a.size + b.size : Nat) : Int) ≤ 140737488355328) : FRet Tryz.prog 48 [.agg [.f (.str a),.f (.str b)]] [.c (.v (.str (wholeS a b)))] := by
 refine FCall.of_ax low_script_Whole ?_
 dsimp only [l_script_Whole]
 refine srun_sound 300 _ _ _ _ ?_
 unfold wholeS
 have z1 : (⟨#[47,47]⟩ : ByteArray).size = 2 := rfl
 have z2 : (⟨#[58]⟩ : ByteArray).size = 1 := rfl
 generalize (⟨#[47,47]⟩ : ByteArray) = c1 at *
 generalize (⟨#[58]⟩ : ByteArray) = c2 at *
 have h1 : (c1.size + a.size ≤ 9223372036854775807) = True := by rw [eq_iff_iff,iff_true,z1];omega
 have h2 : ((c1 ++ a).size + c2.size ≤ 9223372036854775807) = True := by rw [eq_iff_iff,iff_true,ByteArray.size_append,z1,z2];omega
 have h3 : ((c1 ++ a ++ c2).size + b.size ≤ 9223372036854775807) = True := by rw [eq_iff_iff,iff_true,ByteArray.size_append,ByteArray.size_append,z1,z2];omega
 clear z1 z2
 repeat' (first
  | (simp -implicitDefEqProofs only [*,zr,Nat.reduceAdd,Nat.reduceSub,Nat.reduceMul,Nat.reduceLT,Nat.reduceLeDiff,Nat.reduceEqDiff,Nat.reduceBEq,reduceIte,reduceCtorEq,Int.reduceLE,Int.reduceLT,Int.reduceToNat,Int.reduceEq,Int.reduceNe])
  | ((first|apply zk0|apply zk1|apply zk2|apply zk3|apply zk4|apply zk5|apply zk6|apply zk7|apply zk8|apply zk9) <;> intro hc)
  |(refine callP0 rfl ?_)
  |(refine callD0 rfl ?_)
  | fail)
 exact ret_v
def isWholeV (t : ByteArray) : Bool := okLab t && decide (wholeS (labOf t).1 (labOf t).2 = t)
theorem ckLab_size {a b : ByteArray} (h : ckLab a b = true) : a.size ≤ 200 ∧ b.size ≤ 200 := by
 have hp : ∀ {p : ByteArray},isPathV p = true → p.size ≤ 200 := fun {p} h => by
  unfold isPathV at h
  simp only [Bool.and_eq_true,Bool.not_eq_true',Bool.or_eq_false_iff,decide_eq_false_iff_not] at h
  omega
 unfold ckLab at h
 simp only [Bool.and_eq_true,Bool.or_eq_true,decide_eq_true_eq] at h
 refine ⟨?_,hp h.2⟩
 rcases h.1 with rfl | h1
 ·exact Nat.zero_le _
 ·exact hp h1
theorem isWhole_f (t : ByteArray) (ht : (t.size : Int) ≤ 140737488355328) : FRet Tryz.prog 37 [.f (.str t)] [.c (.v (.bool (isWholeV t)))] := by
 refine FCall.of_ax low_script_IsWhole ?_
 dsimp only [l_script_IsWhole]
 refine srun_sound 300 _ _ _ _ ?_
 have k1 := readLabel_f t ht
 have hsz := fun h : okLab t = true => ckLab_size (show ckLab (labOf t).1 (labOf t).2 = true from h)
 unfold isWholeV
 generalize okLab t = o at *
 generalize labOf t = l at *
 obtain ⟨a,b⟩ := l
 cases o
 ·simp only [Bool.false_eq_true,if_false,Bool.false_and] at k1 ⊢
  replace k1 := hide k1
  clear hsz
  repeat' (first
   | (simp -implicitDefEqProofs only [*,zr,Nat.reduceAdd,Nat.reduceSub,Nat.reduceMul,Nat.reduceLT,Nat.reduceLeDiff,Nat.reduceEqDiff,Nat.reduceBEq,reduceIte,reduceCtorEq,Int.reduceLE,Int.reduceLT,Int.reduceToNat,Int.reduceEq,Int.reduceNe])
   | ((first|apply zk0|apply zk1|apply zk2|apply zk3|apply zk4|apply zk5|apply zk6|apply zk7|apply zk8|apply zk9) <;> intro hc)
   |(refine callP0 rfl ?_)
   |(refine callD0 rfl ?_)
   |(refine cP (k1.out) ?_)
   |(refine cD (k1.out) ?_)
   |(refine cF (k1.out) ?_)
   |(refine cO (k1.out) ?_)
   | fail)
  exact ret_ve rfl
 ·simp only [if_true,Bool.true_and] at k1 ⊢
  obtain ⟨s1,s2⟩ := hsz rfl
  simp only at s1 s2
  have k2 := whole_f a b (by omega)
  generalize wholeS a b = w at *
  replace k1 := hide k1
  replace k2 := hide k2
  repeat' (first
   | (simp -implicitDefEqProofs only [*,zr,Nat.reduceAdd,Nat.reduceSub,Nat.reduceMul,Nat.reduceLT,Nat.reduceLeDiff,Nat.reduceEqDiff,Nat.reduceBEq,reduceIte,reduceCtorEq,Int.reduceLE,Int.reduceLT,Int.reduceToNat,Int.reduceEq,Int.reduceNe])
   | ((first|apply zk0|apply zk1|apply zk2|apply zk3|apply zk4|apply zk5|apply zk6|apply zk7|apply zk8|apply zk9) <;> intro hc)
   |(refine callP0 rfl ?_)
   |(refine callD0 rfl ?_)
   |(refine cP (k1.out) ?_)
   |(refine cD (k1.out) ?_)
   |(refine cF (k1.out) ?_)
   |(refine cO (k1.out) ?_)
   |(refine cP (k2.out) ?_)
   |(refine cD (k2.out) ?_)
   |(refine cF (k2.out) ?_)
   |(refine cO (k2.out) ?_)
   | fail)
  all_goals exact ret_ve (by simp [*])
theorem isSmall_f (c : Int) : FRet Tryz.prog 49 [.f (.int .u8 c)] [.c (.v (.bool (inRg c 97 122)))] := by
 refine FCall.of_ax low_script_isSmall ?_
 dsimp only [l_script_isSmall]
 refine srun_sound 300 _ _ _ _ ?_
 unfold inRg
 repeat' (first
  | (simp -implicitDefEqProofs only [*,zr,Nat.reduceAdd,Nat.reduceSub,Nat.reduceMul,Nat.reduceLT,Nat.reduceLeDiff,Nat.reduceEqDiff,Nat.reduceBEq,reduceIte,reduceCtorEq,Int.reduceLE,Int.reduceLT,Int.reduceToNat,Int.reduceEq,Int.reduceNe])
  | ((first|apply zk0|apply zk1|apply zk2|apply zk3|apply zk4|apply zk5|apply zk6|apply zk7|apply zk8|apply zk9) <;> intro hc)
  |(refine callP0 rfl ?_)
  |(refine callD0 rfl ?_)
  | fail)
 all_goals exact ret_ve (by simp [*])
theorem isDigit_f (c : Int) : FRet Tryz.prog 50 [.f (.int .u8 c)] [.c (.v (.bool (inRg c 48 57)))] := by
 refine FCall.of_ax low_script_isDigit ?_
 dsimp only [l_script_isDigit]
 refine srun_sound 300 _ _ _ _ ?_
 unfold inRg
 repeat' (first
  | (simp -implicitDefEqProofs only [*,zr,Nat.reduceAdd,Nat.reduceSub,Nat.reduceMul,Nat.reduceLT,Nat.reduceLeDiff,Nat.reduceEqDiff,Nat.reduceBEq,reduceIte,reduceCtorEq,Int.reduceLE,Int.reduceLT,Int.reduceToNat,Int.reduceEq,Int.reduceNe])
  | ((first|apply zk0|apply zk1|apply zk2|apply zk3|apply zk4|apply zk5|apply zk6|apply zk7|apply zk8|apply zk9) <;> intro hc)
  |(refine callP0 rfl ?_)
  |(refine callD0 rfl ?_)
  | fail)
 all_goals exact ret_ve (by simp [*])
def ixS (l : List ByteArray) (s : ByteArray) : Int := match l.findIdx? (fun x => decide (s = x)) with
 | some i => (i : Int)
 | none => -1
theorem ixS_hit {l : List ByteArray} {s : ByteArray} {i : Nat} {x : ByteArray} (h : ∀ (k : Nat) y,k < i → l[k]? = some y → decide (s = y) = false) (hx : l[i]? = some x) (hk : decide (s = x) = true) : ixS l s = i := by
 have : l.findIdx? (fun x => decide (s = x)) = some i := by
  rw [List.findIdx?_eq_some_iff_getElem]
  obtain ⟨hlt,he⟩ := List.getElem?_eq_some_iff.1 hx
  refine ⟨hlt,by rw [he];exact hk,fun j hj => ?_⟩
  have := h j _ hj (List.getElem?_eq_getElem (by omega))
  rw [this];simp
 rw [ixS,this]
theorem ixS_none {l : List ByteArray} {s : ByteArray} (h : ∀ (k : Nat) y,k < l.length → l[k]? = some y → decide (s = y) = false) : ixS l s = -1 := by
 have : l.findIdx? (fun x => decide (s = x)) = none := by
  rw [List.findIdx?_eq_none_iff]
  intro x hx
  obtain ⟨m,hm⟩ := List.mem_iff_getElem?.1 hx
  exact h m x (List.getElem?_eq_some_iff.1 hm).1 hm
 rw [ixS,this]
theorem no_step {α : Type} {l : List α} {f : α → Bool} {i : Nat} {x : α} (h : ∀ (k : Nat) b,k < i → l[k]? = some b → f b = false) (hx : l[i]? = some x) (hf : f x = false) : ∀ (k : Nat) b,k < i + 1 → l[k]? = some b → f b = false := fun k b hk hb => by
 rcases Nat.lt_succ_iff_lt_or_eq.1 hk with h1 | rfl
 ·exact h k b h1 hb
 ·rw [hx] at hb;obtain rfl := Option.some.inj hb;exact hf
theorem index_fS (l : List ByteArray) (p : ByteArray) (hl : (l.length : Int) ≤ 9223372036854775807) : FRet Tryz.prog 62 [.f (frStrs l),.f (.str p)] [.c (.v (.int .i64 (ixS l p)))] := by
 refine FCall.of_ax low_slices_Index_string_string ?_
 dsimp only [l_slices_Index_string_string,frStrs]
 refine srun_sound 300 _ _ _ _ ?_
 repeat' (first
  | (simp -implicitDefEqProofs only [*,zr,Nat.reduceAdd,Nat.reduceSub,Nat.reduceMul,Nat.reduceLT,Nat.reduceLeDiff,Nat.reduceEqDiff,Nat.reduceBEq,reduceIte,reduceCtorEq,Int.reduceLE,Int.reduceLT,Int.reduceToNat,Int.reduceEq,Int.reduceNe])
  | ((first|apply zk0|apply zk1|apply zk2|apply zk3|apply zk4|apply zk5|apply zk6|apply zk7|apply zk8|apply zk9) <;> intro hc)
  |(refine callP0 rfl ?_)
  |(refine callD0 rfl ?_)
  | fail)
 refine ax_loopU (S := Nat) 19 [0,1,7] [] (fun s => [(8,.f (.int .i64 s))]) (fun s => []) (fun s => s ≤ l.length ∧ ∀ (k : Nat) (b : ByteArray),k < s → l[k]? = some b → decide (p = b) = false) (fun s => l.length - s) (0) [] ?_ ?_ fun s hs => ?_
 ·exact ⟨Nat.zero_le _,fun k b h => absurd h (by omega)⟩
 ·refine wk_i ?_ ?_ <;> simp only [zw,Nat.reduceEqDiff,Nat.reduceBEq,Nat.reduceLT,Nat.reduceLeDiff,reduceIte,reduceCtorEq]
 obtain ⟨hi,hall⟩ := hs
 refine srun_sound 300 _ _ _ _ ?_
 have hA := hide hall
 clear hall
 rcases Nat.lt_or_ge s l.length with hlt | hge
 ·obtain ⟨b,hb⟩ := get_some hlt
  have h4 := inc64 hlt hl
  have h2 := lt_t hlt
  cases hp : decide (p = b)
  ·repeat' (first
    | (simp -implicitDefEqProofs only [*,List.getElem?_map,Option.map_some,zr,Nat.reduceAdd,Nat.reduceSub,Nat.reduceMul,Nat.reduceLT,Nat.reduceLeDiff,Nat.reduceEqDiff,Nat.reduceBEq,reduceIte,reduceCtorEq,Int.reduceLE,Int.reduceLT,Int.reduceToNat,Int.reduceEq,Int.reduceNe])
    | ((first|apply zk0|apply zk1|apply zk2|apply zk3|apply zk4|apply zk5|apply zk6|apply zk7|apply zk8|apply zk9) <;> intro hc)
    |(refine callP0 rfl ?_)
    |(refine callD0 rfl ?_)
    | fail)
   refine ⟨s + 1,⟨hlt,no_step (f := fun b => decide (p = b)) hA.out hb hp⟩,by omega,?_⟩
   refine wk_i ?_ ?_ <;> simp only [zw,Nat.reduceEqDiff,Nat.reduceBEq,Nat.reduceLT,Nat.reduceLeDiff,reduceIte,reduceCtorEq]
  ·rw [ixS_hit hA.out hb hp]
   repeat' (first
    | (simp -implicitDefEqProofs only [*,List.getElem?_map,Option.map_some,zr,Nat.reduceAdd,Nat.reduceSub,Nat.reduceMul,Nat.reduceLT,Nat.reduceLeDiff,Nat.reduceEqDiff,Nat.reduceBEq,reduceIte,reduceCtorEq,Int.reduceLE,Int.reduceLT,Int.reduceToNat,Int.reduceEq,Int.reduceNe])
    | ((first|apply zk0|apply zk1|apply zk2|apply zk3|apply zk4|apply zk5|apply zk6|apply zk7|apply zk8|apply zk9) <;> intro hc)
    |(refine callP0 rfl ?_)
    |(refine callD0 rfl ?_)
    | fail)
   exact ret_v
 ·obtain rfl : s = l.length := by omega
  have h2 := lt_f hge
  rw [ixS_none hA.out]
  repeat' (first
   | (simp -implicitDefEqProofs only [*,zr,Nat.reduceAdd,Nat.reduceSub,Nat.reduceMul,Nat.reduceLT,Nat.reduceLeDiff,Nat.reduceEqDiff,Nat.reduceBEq,reduceIte,reduceCtorEq,Int.reduceLE,Int.reduceLT,Int.reduceToNat,Int.reduceEq,Int.reduceNe])
   | ((first|apply zk0|apply zk1|apply zk2|apply zk3|apply zk4|apply zk5|apply zk6|apply zk7|apply zk8|apply zk9) <;> intro hc)
   |(refine callP0 rfl ?_)
   |(refine callD0 rfl ?_)
   | fail)
  exact ret_v
theorem contains_fS (l : List ByteArray) (p : ByteArray) (hl : (l.length : Int) ≤ 9223372036854775807) : FRet Tryz.prog 51 [.f (frStrs l),.f (.str p)] [.c (.v (.bool (decide (0 ≤ ixS l p))))] := by
 refine FCall.of_ax low_slices_Contains_string_string ?_
 dsimp only [l_slices_Contains_string_string]
 refine srun_sound 300 _ _ _ _ ?_
 repeat' (first
  | (simp -implicitDefEqProofs only [*,zr,Nat.reduceAdd,Nat.reduceSub,Nat.reduceMul,Nat.reduceLT,Nat.reduceLeDiff,Nat.reduceEqDiff,Nat.reduceBEq,reduceIte,reduceCtorEq,Int.reduceLE,Int.reduceLT,Int.reduceToNat,Int.reduceEq,Int.reduceNe])
  | ((first|apply zk0|apply zk1|apply zk2|apply zk3|apply zk4|apply zk5|apply zk6|apply zk7|apply zk8|apply zk9) <;> intro hc)
  |(refine callP0 rfl ?_)
  |(refine callD0 rfl ?_)
  |(refine cP (index_fS l p hl) ?_)
  |(refine cD (index_fS l p hl) ?_)
  |(refine cF (index_fS l p hl) ?_)
  |(refine cO (index_fS l p hl) ?_)
  | fail)
 exact ret_v
def wordsL : List ByteArray := [⟨#[109,97,99,114,111]⟩,⟨#[102,111,114]⟩,⟨#[105,110]⟩,⟨#[105,102]⟩,⟨#[101,108,115,101]⟩,⟨#[117,115,101]⟩,⟨#[102,105,108,101,115]⟩,⟨#[99,104,111,111,115,101]⟩]
theorem words_f : FRet Tryz.prog 52 [] [.c (.own 1 8 (wordsL.map .str))] := by
 refine FCall.of_ax low_script_words ?_
 dsimp only [l_script_words]
 refine srun_sound 300 _ _ _ _ ?_
 repeat' (first
  | (simp -implicitDefEqProofs only [*,zr,Nat.reduceAdd,Nat.reduceSub,Nat.reduceMul,Nat.reduceLT,Nat.reduceLeDiff,Nat.reduceEqDiff,Nat.reduceBEq,reduceIte,reduceCtorEq,Int.reduceLE,Int.reduceLT,Int.reduceToNat,Int.reduceEq,Int.reduceNe])
  | ((first|apply zk0|apply zk1|apply zk2|apply zk3|apply zk4|apply zk5|apply zk6|apply zk7|apply zk8|apply zk9) <;> intro hc)
  |(refine callP0 rfl ?_)
  |(refine callD0 rfl ?_)
  | fail)
 exact ret_o rfl (by decide)
def nameB (c : Int) : Bool := inRg c 97 122 || (inRg c 48 57 || decide (c = 95))
def isNameV (p : ByteArray) : Bool := match p.data.toList with
 | [] => false
 | b :: _ => !decide ((40 : Int) < p.size) && (inRg (b.toNat : Nat) 97 122 && (p.data.toList.all (fun b => nameB b.toNat) && !decide (0 ≤ ixS wordsL p)))
set_option maxHeartbeats 1000000 in
theorem isName_f (p : ByteArray) : FRet Tryz.prog 38 [.f (.str p)] [.c (.v (.bool (isNameV p)))] := by
 refine FCall.of_ax low_script_IsName ?_
 dsimp only [l_script_IsName]
 refine srun_sound 300 _ _ _ _ ?_
 have hbl := bytes_len p
 rcases hL : p.data.toList with _ | ⟨b0,bl⟩
 ·have hf : isNameV p = false := by unfold isNameV;rw [hL]
  have d1 : decide ((p.size : Int) < 1) = true := by rw [hL] at hbl;rw [decide_eq_true_eq];simp at hbl;omega
  rw [hf]
  clear hbl hL
  repeat' (first
   | (simp -implicitDefEqProofs only [*,zr,Nat.reduceAdd,Nat.reduceSub,Nat.reduceMul,Nat.reduceLT,Nat.reduceLeDiff,Nat.reduceEqDiff,Nat.reduceBEq,reduceIte,reduceCtorEq,Int.reduceLE,Int.reduceLT,Int.reduceToNat,Int.reduceEq,Int.reduceNe])
   | ((first|apply zk0|apply zk1|apply zk2|apply zk3|apply zk4|apply zk5|apply zk6|apply zk7|apply zk8|apply zk9) <;> intro hc)
   |(refine callP0 rfl ?_)
   |(refine callD0 rfl ?_)
   | fail)
  exact ret_v
 have d1 : decide ((p.size : Int) < 1) = false := by rw [hL] at hbl;rw [decide_eq_false_iff_not];simp at hbl;omega
 have hV : isNameV p = (!decide ((40 : Int) < p.size) && (inRg (b0.toNat : Nat) 97 122 && (p.data.toList.all (fun b => nameB b.toNat) && !decide (0 ≤ ixS wordsL p)))) := by unfold isNameV;rw [hL]
 rw [hV]
 clear hV
 have h0 : p.data.toList[0]? = some b0 := by rw [hL];rfl
 clear hL
 have hH := hide h0
 cases d2 : decide ((40 : Int) < p.size)
 case true =>
  repeat' (first
   | (simp -implicitDefEqProofs only [*,zr,Nat.reduceAdd,Nat.reduceSub,Nat.reduceMul,Nat.reduceLT,Nat.reduceLeDiff,Nat.reduceEqDiff,Nat.reduceBEq,reduceIte,reduceCtorEq,Int.reduceLE,Int.reduceLT,Int.reduceToNat,Int.reduceEq,Int.reduceNe])
   | ((first|apply zk0|apply zk1|apply zk2|apply zk3|apply zk4|apply zk5|apply zk6|apply zk7|apply zk8|apply zk9) <;> intro hc)
   |(refine callP0 rfl ?_)
   |(refine callD0 rfl ?_)
   | fail)
  exact ret_ve rfl
 have h40 : p.size ≤ 40 := by have := of_decide_eq_false d2;omega
 cases d3 : inRg (b0.toNat : Nat) 97 122
 ·repeat' (first
   | (simp -implicitDefEqProofs only [*,Int.le_refl,Int.toNat_zero,zr,Nat.reduceAdd,Nat.reduceSub,Nat.reduceMul,Nat.reduceLT,Nat.reduceLeDiff,Nat.reduceEqDiff,Nat.reduceBEq,reduceIte,reduceCtorEq,Int.reduceLE,Int.reduceLT,Int.reduceToNat,Int.reduceEq,Int.reduceNe])
   | ((first|apply zk0|apply zk1|apply zk2|apply zk3|apply zk4|apply zk5|apply zk6|apply zk7|apply zk8|apply zk9) <;> intro hc)
   |(refine callP0 rfl ?_)
   |(refine callD0 rfl ?_)
   |(refine cP (isSmall_f _) ?_)
   |(refine cD (isSmall_f _) ?_)
   |(refine cF (isSmall_f _) ?_)
   |(refine cO (isSmall_f _) ?_)
   | fail)
  exact ret_ve rfl
 repeat' (first
  | (simp -implicitDefEqProofs only [*,Int.le_refl,Int.toNat_zero,zr,Nat.reduceAdd,Nat.reduceSub,Nat.reduceMul,Nat.reduceLT,Nat.reduceLeDiff,Nat.reduceEqDiff,Nat.reduceBEq,reduceIte,reduceCtorEq,Int.reduceLE,Int.reduceLT,Int.reduceToNat,Int.reduceEq,Int.reduceNe])
  | ((first|apply zk0|apply zk1|apply zk2|apply zk3|apply zk4|apply zk5|apply zk6|apply zk7|apply zk8|apply zk9) <;> intro hc)
  |(refine callP0 rfl ?_)
  |(refine callD0 rfl ?_)
  |(refine cP (isSmall_f _) ?_)
  |(refine cD (isSmall_f _) ?_)
  |(refine cF (isSmall_f _) ?_)
  |(refine cO (isSmall_f _) ?_)
  | fail)
 refine ax_loopU (S := Nat) 46 [0,19] [] (fun s => [(20,.f (.int .i64 s))]) (fun s => []) (fun s => s ≤ p.size ∧ ∀ (k : Nat) (b : UInt8),k < s → p.data.toList[k]? = some b → nameB b.toNat = true) (fun s => p.size - s) (0) [] ?_ ?_ fun s hs => ?_
 ·exact ⟨Nat.zero_le _,fun k b h => absurd h (by omega)⟩
 ·refine wk_i ?_ ?_ <;> simp only [zw,Nat.reduceEqDiff,Nat.reduceBEq,Nat.reduceLT,Nat.reduceLeDiff,reduceIte,reduceCtorEq]
 obtain ⟨hi,hall⟩ := hs
 refine srun_sound 300 _ _ _ _ ?_
 have hA := hide hall
 clear hall h0
 rcases Nat.lt_or_ge s p.size with hlt | hge
 ·obtain ⟨b,hb⟩ := byte_at hlt
  have h4 := inc64 hlt (by omega)
  have h2 := lt_t hlt
  cases hp : nameB (b.toNat : Nat)
  ·rw [all_no (f := fun b : UInt8 => nameB b.toNat) hb hp]
   unfold nameB at hp
   simp only [Bool.or_eq_false_iff] at hp
   obtain ⟨p1,p2,p3⟩ := hp
   repeat' (first
    | (simp -implicitDefEqProofs only [*,zr,Nat.reduceAdd,Nat.reduceSub,Nat.reduceMul,Nat.reduceLT,Nat.reduceLeDiff,Nat.reduceEqDiff,Nat.reduceBEq,reduceIte,reduceCtorEq,Int.reduceLE,Int.reduceLT,Int.reduceToNat,Int.reduceEq,Int.reduceNe])
    | ((first|apply zk0|apply zk1|apply zk2|apply zk3|apply zk4|apply zk5|apply zk6|apply zk7|apply zk8|apply zk9) <;> intro hc)
    |(refine callP0 rfl ?_)
    |(refine callD0 rfl ?_)
    |(refine cP (isSmall_f _) ?_)
    |(refine cD (isSmall_f _) ?_)
    |(refine cF (isSmall_f _) ?_)
    |(refine cO (isSmall_f _) ?_)
    |(refine cP (isDigit_f _) ?_)
    |(refine cD (isDigit_f _) ?_)
    |(refine cF (isDigit_f _) ?_)
    |(refine cO (isDigit_f _) ?_)
    | fail)
   exact ret_ve (by simp)
  ·have hst := all_step (f := fun b : UInt8 => nameB b.toNat) hA.out hb hp
   replace hst := hide hst
   unfold nameB at hp
   generalize q1 : inRg (b.toNat : Nat) 97 122 = x1 at hp
   generalize q2 : inRg (b.toNat : Nat) 48 57 = x2 at hp
   generalize q3 : decide (((b.toNat : Nat) : Int) = 95) = x3 at hp
   cases x1 <;> cases x2 <;> cases x3 <;> (first|(cases hp;done) | skip)
   all_goals clear hp
   repeat' (first
    | (simp -implicitDefEqProofs only [*,zr,Nat.reduceAdd,Nat.reduceSub,Nat.reduceMul,Nat.reduceLT,Nat.reduceLeDiff,Nat.reduceEqDiff,Nat.reduceBEq,reduceIte,reduceCtorEq,Int.reduceLE,Int.reduceLT,Int.reduceToNat,Int.reduceEq,Int.reduceNe])
    | ((first|apply zk0|apply zk1|apply zk2|apply zk3|apply zk4|apply zk5|apply zk6|apply zk7|apply zk8|apply zk9) <;> intro hc)
    |(refine callP0 rfl ?_)
    |(refine callD0 rfl ?_)
    |(refine cP (isSmall_f _) ?_)
    |(refine cD (isSmall_f _) ?_)
    |(refine cF (isSmall_f _) ?_)
    |(refine cO (isSmall_f _) ?_)
    |(refine cP (isDigit_f _) ?_)
    |(refine cD (isDigit_f _) ?_)
    |(refine cF (isDigit_f _) ?_)
    |(refine cO (isDigit_f _) ?_)
    | fail)
   all_goals refine ⟨s + 1,⟨hlt,hst.out⟩,by omega,?_⟩
   all_goals refine wk_i ?_ ?_ <;> simp only [zw,Nat.reduceEqDiff,Nat.reduceBEq,Nat.reduceLT,Nat.reduceLeDiff,reduceIte,reduceCtorEq]
 ·obtain rfl : s = p.size := by omega
  have h2 := lt_f hge
  rw [all_of (l := p.data.toList) (f := fun b : UInt8 => nameB b.toNat) (fun k b hk hb => hA.out k b (by rw [← bytes_len];exact hk) hb)]
  repeat' (first
   | (simp -implicitDefEqProofs only [*,zr,Nat.reduceAdd,Nat.reduceSub,Nat.reduceMul,Nat.reduceLT,Nat.reduceLeDiff,Nat.reduceEqDiff,Nat.reduceBEq,reduceIte,reduceCtorEq,Int.reduceLE,Int.reduceLT,Int.reduceToNat,Int.reduceEq,Int.reduceNe])
   | ((first|apply zk0|apply zk1|apply zk2|apply zk3|apply zk4|apply zk5|apply zk6|apply zk7|apply zk8|apply zk9) <;> intro hc)
   |(refine callP0 rfl ?_)
   |(refine callD0 rfl ?_)
   |(refine cP (words_f) ?_)
   |(refine cD (words_f) ?_)
   |(refine cF (words_f) ?_)
   |(refine cO (words_f) ?_)
   | fail)
  refine callF rfl (contains_fS wordsL p (by decide)) rfl ?_ rfl (by first | exact free_mk rfl | exact free_mk (by simp) | (repeat (first|exact free_mk rfl | exact free_mk (by simp) | refine free_upd rfl ?_))) ?_
  ·show SlotsOk _ _ _ [.sl 42 1 1 0 8,.f (.str p)] [.f (frStrs wordsL),.f (.str p)]
   rw [so_cons,so_cons,so_nil]
   exact ⟨so_strs rfl rfl,so_f,trivial⟩
  repeat' (first
   | (simp -implicitDefEqProofs only [*,zr,Nat.reduceAdd,Nat.reduceSub,Nat.reduceMul,Nat.reduceLT,Nat.reduceLeDiff,Nat.reduceEqDiff,Nat.reduceBEq,reduceIte,reduceCtorEq,Int.reduceLE,Int.reduceLT,Int.reduceToNat,Int.reduceEq,Int.reduceNe])
   | ((first|apply zk0|apply zk1|apply zk2|apply zk3|apply zk4|apply zk5|apply zk6|apply zk7|apply zk8|apply zk9) <;> intro hc)
   |(refine callP0 rfl ?_)
   |(refine callD0 rfl ?_)
   | fail)
  exact ret_ve (by simp)
def isPatV (p : ByteArray) : Bool := hasPre p ⟨#[47,47]⟩ && (decide (cutPre p ⟨#[47,47]⟩ = ⟨#[]⟩) || (decide (cutPre p ⟨#[47,47]⟩ = ⟨#[46,46,46]⟩) ||
 (isPathV (trimSuf (cutPre p ⟨#[47,47]⟩) ⟨#[47,46,46,46]⟩) && (!decide (trimSuf (cutPre p ⟨#[47,47]⟩) ⟨#[47,46,46,46]⟩ = ⟨#[46,46,46]⟩) && !hasSuf (trimSuf (cutPre p ⟨#[47,47]⟩) ⟨#[47,46,46,46]⟩) ⟨#[47,46,46,46]⟩))))
theorem trimSuf_le (s p : ByteArray) : (trimSuf s p).size ≤ s.size := by
 unfold trimSuf;split
 ·rw [ByteArray.size_extract];omega
 ·exact Nat.le_refl _
set_option maxHeartbeats 4000000 in
theorem isPat_f (p : ByteArray) (hs : (p.size : Int) ≤ 140737488355328) : FRet Tryz.prog 39 [.f (.str p)] [.c (.v (.bool (isPatV p)))] := by
 refine FCall.of_ax low_graph_IsPattern ?_
 dsimp only [l_graph_IsPattern]
 refine srun_sound 300 _ _ _ _ ?_
 have k1 := cutPre_f p ⟨#[47,47]⟩
 have hl := cutPre_le p ⟨#[47,47]⟩
 unfold isPatV
 generalize hasPre p ⟨#[47,47]⟩ = o at *
 generalize cutPre p ⟨#[47,47]⟩ = r at *
 have k2 := trimSuf_f r ⟨#[47,46,46,46]⟩ (by omega)
 have hl2 := trimSuf_le r ⟨#[47,46,46,46]⟩
 generalize trimSuf r ⟨#[47,46,46,46]⟩ = q at *
 have k3 := isPath_f q
 have k4 := hasSuf_f1 q ⟨#[47,46,46,46]⟩ (by omega)
 generalize isPathV q = b1 at *
 generalize hasSuf q ⟨#[47,46,46,46]⟩ = b2 at *
 replace k1 := hide k1
 replace k2 := hide k2
 replace k3 := hide k3
 replace k4 := hide k4
 cases o
 ·repeat' (first
   | (simp -implicitDefEqProofs only [*,zr,Nat.reduceAdd,Nat.reduceSub,Nat.reduceMul,Nat.reduceLT,Nat.reduceLeDiff,Nat.reduceEqDiff,Nat.reduceBEq,reduceIte,reduceCtorEq,Int.reduceLE,Int.reduceLT,Int.reduceToNat,Int.reduceEq,Int.reduceNe])
   | ((first|apply zk0|apply zk1|apply zk2|apply zk3|apply zk4|apply zk5|apply zk6|apply zk7|apply zk8|apply zk9) <;> intro hc)
   |(refine callP0 rfl ?_)
   |(refine callD0 rfl ?_)
   |(refine cP (k1.out) ?_)
   |(refine cD (k1.out) ?_)
   |(refine cF (k1.out) ?_)
   |(refine cO (k1.out) ?_)
   | fail)
  exact ret_ve rfl
 generalize e1 : decide (r = ⟨#[]⟩) = d1
 generalize e2 : decide (r = ⟨#[46,46,46]⟩) = d2
 generalize e3 : decide (q = ⟨#[46,46,46]⟩) = d3
 cases d1 <;> cases d2 <;> cases b1 <;> cases d3 <;> cases b2
 repeat' (first
  | (simp -implicitDefEqProofs only [*,zr,Nat.reduceAdd,Nat.reduceSub,Nat.reduceMul,Nat.reduceLT,Nat.reduceLeDiff,Nat.reduceEqDiff,Nat.reduceBEq,reduceIte,reduceCtorEq,Int.reduceLE,Int.reduceLT,Int.reduceToNat,Int.reduceEq,Int.reduceNe])
  | ((first|apply zk0|apply zk1|apply zk2|apply zk3|apply zk4|apply zk5|apply zk6|apply zk7|apply zk8|apply zk9) <;> intro hc)
  |(refine callP0 rfl ?_)
  |(refine callD0 rfl ?_)
  |(refine cP (k1.out) ?_)
  |(refine cD (k1.out) ?_)
  |(refine cF (k1.out) ?_)
  |(refine cO (k1.out) ?_)
  |(refine cP (k2.out) ?_)
  |(refine cD (k2.out) ?_)
  |(refine cF (k2.out) ?_)
  |(refine cO (k2.out) ?_)
  |(refine cP (k3.out) ?_)
  |(refine cD (k3.out) ?_)
  |(refine cF (k3.out) ?_)
  |(refine cO (k3.out) ?_)
  |(refine cP (k4.out) ?_)
  |(refine cD (k4.out) ?_)
  |(refine cF (k4.out) ?_)
  |(refine cO (k4.out) ?_)
  | fail)
 all_goals exact ret_ve (by simp)
end Go.Proofs.YtagkdifaldikgaaGreatDoor
