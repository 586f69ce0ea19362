/-
  slices.Contains and slices.Clone at strings; what a line says. No statement of the seat is proved here; no conditions.
-/
import Derived.Test.YthniagdphhcnkaaGreatDoorTxR
namespace Go.Proofs.YthniagdphhcnkaaGreatDoor
open Go.RowKit Go.Shelf
set_option linter.unusedVariables false
set_option linter.unusedSimpArgs false
set_option maxRecDepth 100000

def ixS (l : List ByteArray) (s : ByteArray) : Int := match l.findIdx? (fun x => decide (s = x)) with
 | some i => (i : Int)
 | none => -1
theorem ixS_hit {l : List ByteArray} {s : ByteArray} {i : Nat} {x : ByteArray} (h : ∀ (k : Nat) y,k < i → l[k]? = some y → decide (s = y) = false) (hx : l[i]? = some x) (hk : decide (s = x) = true) : ixS l s = i := by
 have : l.findIdx? (fun x => decide (s = x)) = some i := by
  rw [List.findIdx?_eq_some_iff_getElem]
  obtain ⟨hlt,he⟩ := List.getElem?_eq_some_iff.1 hx
  refine ⟨hlt,by rw [he];exact hk,fun j hj => ?_⟩
  have := h j _ hj (List.getElem?_eq_getElem (by omega))
  rw [this];simp
 rw [ixS,this]
theorem ixS_none {l : List ByteArray} {s : ByteArray} (h : ∀ (k : Nat) y,k < l.length → l[k]? = some y → decide (s = y) = false) : ixS l s = -1 := by
 have : l.findIdx? (fun x => decide (s = x)) = none := by
  rw [List.findIdx?_eq_none_iff]
  intro x hx
  obtain ⟨m,hm⟩ := List.mem_iff_getElem?.1 hx
  exact h m x (List.getElem?_eq_some_iff.1 hm).1 hm
 rw [ixS,this]
theorem no_step {α : Type} {l : List α} {f : α → Bool} {i : Nat} {x : α} (h : ∀ (k : Nat) b,k < i → l[k]? = some b → f b = false) (hx : l[i]? = some x) (hf : f x = false) : ∀ (k : Nat) b,k < i + 1 → l[k]? = some b → f b = false := fun k b hk hb => by
 rcases Nat.lt_succ_iff_lt_or_eq.1 hk with h1 | rfl
 ·exact h k b h1 hb
 ·rw [hx] at hb;obtain rfl := Option.some.inj hb;exact hf
theorem index_fS (l : List ByteArray) (p : ByteArray) (hl : (l.length : Int) ≤ 9223372036854775807) : FRet Tryz.prog 47 [.f (frStrs l),.f (.str p)] [.c (.v (.int .i64 (ixS l p)))] := by
 refine FCall.of_ax low_slices_Index_string_string ?_
 dsimp only [l_slices_Index_string_string,frStrs]
 refine srun_sound 300 _ _ _ _ ?_
 repeat' (first
  | (simp -implicitDefEqProofs only [*,zr,Nat.reduceAdd,Nat.reduceSub,Nat.reduceMul,Nat.reduceLT,Nat.reduceLeDiff,Nat.reduceEqDiff,Nat.reduceBEq,reduceIte,reduceCtorEq,Int.reduceLE,Int.reduceLT,Int.reduceToNat,Int.reduceEq,Int.reduceNe])
  | ((first|apply zk0|apply zk1|apply zk2|apply zk3|apply zk4|apply zk5|apply zk6|apply zk7|apply zk8|apply zk9) <;> intro hc)
  |(refine callP0 rfl ?_)
  |(refine callD0 rfl ?_)
  | fail)
 refine ax_loopU (S := Nat) 19 [0,1,7] [] (fun s => [(8,.f (.int .i64 s))]) (fun s => []) (fun s => s ≤ l.length ∧ ∀ (k : Nat) (b : ByteArray),k < s → l[k]? = some b → decide (p = b) = false) (fun s => l.length - s) (0) [] ?_ ?_ fun s hs => ?_
 ·exact ⟨Nat.zero_le _,fun k b h => absurd h (by omega)⟩
 ·refine wk_i ?_ ?_ <;> simp only [zw,Nat.reduceEqDiff,Nat.reduceBEq,Nat.reduceLT,Nat.reduceLeDiff,reduceIte,reduceCtorEq]
 obtain ⟨hi,hall⟩ := hs
 refine srun_sound 300 _ _ _ _ ?_
 have hA := hide hall
 clear hall
 rcases Nat.lt_or_ge s l.length with hlt | hge
 ·obtain ⟨b,hb⟩ := get_some hlt
  have h4 := inc64 hlt hl
  have h2 := lt_t hlt
  cases hp : decide (p = b)
  ·repeat' (first
    | (simp -implicitDefEqProofs only [*,List.getElem?_map,Option.map_some,zr,Nat.reduceAdd,Nat.reduceSub,Nat.reduceMul,Nat.reduceLT,Nat.reduceLeDiff,Nat.reduceEqDiff,Nat.reduceBEq,reduceIte,reduceCtorEq,Int.reduceLE,Int.reduceLT,Int.reduceToNat,Int.reduceEq,Int.reduceNe])
    | ((first|apply zk0|apply zk1|apply zk2|apply zk3|apply zk4|apply zk5|apply zk6|apply zk7|apply zk8|apply zk9) <;> intro hc)
    |(refine callP0 rfl ?_)
    |(refine callD0 rfl ?_)
    | fail)
   refine ⟨s + 1,⟨hlt,no_step (f := fun b => decide (p = b)) hA.out hb hp⟩,by omega,?_⟩
   refine wk_i ?_ ?_ <;> simp only [zw,Nat.reduceEqDiff,Nat.reduceBEq,Nat.reduceLT,Nat.reduceLeDiff,reduceIte,reduceCtorEq]
  ·rw [ixS_hit hA.out hb hp]
   repeat' (first
    | (simp -implicitDefEqProofs only [*,List.getElem?_map,Option.map_some,zr,Nat.reduceAdd,Nat.reduceSub,Nat.reduceMul,Nat.reduceLT,Nat.reduceLeDiff,Nat.reduceEqDiff,Nat.reduceBEq,reduceIte,reduceCtorEq,Int.reduceLE,Int.reduceLT,Int.reduceToNat,Int.reduceEq,Int.reduceNe])
    | ((first|apply zk0|apply zk1|apply zk2|apply zk3|apply zk4|apply zk5|apply zk6|apply zk7|apply zk8|apply zk9) <;> intro hc)
    |(refine callP0 rfl ?_)
    |(refine callD0 rfl ?_)
    | fail)
   exact ret_v
 ·obtain rfl : s = l.length := by omega
  have h2 := lt_f hge
  rw [ixS_none hA.out]
  repeat' (first
   | (simp -implicitDefEqProofs only [*,zr,Nat.reduceAdd,Nat.reduceSub,Nat.reduceMul,Nat.reduceLT,Nat.reduceLeDiff,Nat.reduceEqDiff,Nat.reduceBEq,reduceIte,reduceCtorEq,Int.reduceLE,Int.reduceLT,Int.reduceToNat,Int.reduceEq,Int.reduceNe])
   | ((first|apply zk0|apply zk1|apply zk2|apply zk3|apply zk4|apply zk5|apply zk6|apply zk7|apply zk8|apply zk9) <;> intro hc)
   |(refine callP0 rfl ?_)
   |(refine callD0 rfl ?_)
   | fail)
  exact ret_v
theorem contains_fS (l : List ByteArray) (p : ByteArray) (hl : (l.length : Int) ≤ 9223372036854775807) : FRet Tryz.prog 37 [.f (frStrs l),.f (.str p)] [.c (.v (.bool (decide (0 ≤ ixS l p))))] := by
 refine FCall.of_ax low_slices_Contains_string_string ?_
 dsimp only [l_slices_Contains_string_string]
 refine srun_sound 300 _ _ _ _ ?_
 repeat' (first
  | (simp -implicitDefEqProofs only [*,zr,Nat.reduceAdd,Nat.reduceSub,Nat.reduceMul,Nat.reduceLT,Nat.reduceLeDiff,Nat.reduceEqDiff,Nat.reduceBEq,reduceIte,reduceCtorEq,Int.reduceLE,Int.reduceLT,Int.reduceToNat,Int.reduceEq,Int.reduceNe])
  | ((first|apply zk0|apply zk1|apply zk2|apply zk3|apply zk4|apply zk5|apply zk6|apply zk7|apply zk8|apply zk9) <;> intro hc)
  |(refine callP0 rfl ?_)
  |(refine callD0 rfl ?_)
  |(refine cP (index_fS l p hl) ?_)
  |(refine cD (index_fS l p hl) ?_)
  |(refine cF (index_fS l p hl) ?_)
  |(refine cO (index_fS l p hl) ?_)
  | fail)
 exact ret_v
theorem ixS_has (l : List ByteArray) (s : ByteArray) : decide (0 ≤ ixS l s) = hasS s l := by
 unfold ixS
 cases hq : l.findIdx? (fun x => decide (s = x)) with
 | none =>
  rw [List.findIdx?_eq_none_iff] at hq
  have h1 : hasS s l = false := by
   rw [← Bool.not_eq_true,hasS_iff]
   intro hm
   have := hq s hm
   simp at this
  rw [h1];rfl
 | some i =>
  rw [List.findIdx?_eq_some_iff_getElem] at hq
  obtain ⟨hlt,he,_⟩ := hq
  have h1 : hasS s l = true := by
   rw [hasS_iff,of_decide_eq_true he]
   exact List.getElem_mem hlt
  rw [h1]
  exact decide_eq_true (Int.natCast_nonneg i)
theorem contains_h (l : List ByteArray) (p : ByteArray) (hl : (l.length : Int) ≤ 9223372036854775807) : FRet Tryz.prog 37 [.f (frStrs l),.f (.str p)] [.c (.v (.bool (hasS p l)))] := by
 have h := contains_fS l p hl
 rw [ixS_has] at h
 exact h
def encSt (s : ByteArray) : List FV := [.str s]
theorem cloneT_f (l : List ByteArray) (hl : l.length ≤ 10000000) : FRet Tryz.prog 39 [.f (.fr 1 (l.map encSt))] [.c (.own 1 l.length (rowF encSt l))] := by
 refine FCall.of_ax low_slices_Clone_string_string ?_
 dsimp only [l_slices_Clone_string_string]
 refine srun_sound 300 _ _ _ _ ?_
 have h1 : (l.length * 16 ≤ 140737488355328) = True := by rw [eq_iff_iff,iff_true];omega
 rcases Nat.eq_zero_or_pos l.length with h0 | h0
 ·obtain rfl := List.eq_nil_of_length_eq_zero h0
  repeat' (first
   | (simp -implicitDefEqProofs only [*,condS_bit,List.flatten_nil,List.map_nil,zr,Nat.reduceAdd,Nat.reduceSub,Nat.reduceMul,Nat.reduceLT,Nat.reduceLeDiff,Nat.reduceEqDiff,Nat.reduceBEq,reduceIte,reduceCtorEq,Int.reduceLE,Int.reduceLT,Int.reduceToNat,Int.reduceEq,Int.reduceNe])
   | ((first|apply zk0|apply zk1|apply zk2|apply zk3|apply zk4|apply zk5|apply zk6|apply zk7|apply zk8|apply zk9) <;> intro hc)
   |(refine callP0 rfl ?_)
   |(refine callD0 rfl ?_)
   | fail)
  refine ⟨?_,?_⟩
  ·repeat' (first
    | (simp -implicitDefEqProofs only [*,List.flatten_nil,List.map_nil,zr,Nat.reduceAdd,Nat.reduceSub,Nat.reduceMul,Nat.reduceLT,Nat.reduceLeDiff,Nat.reduceEqDiff,Nat.reduceBEq,reduceIte,reduceCtorEq,Int.reduceLE,Int.reduceLT,Int.reduceToNat,Int.reduceEq,Int.reduceNe])
    | ((first|apply zk0|apply zk1|apply zk2|apply zk3|apply zk4|apply zk5|apply zk6|apply zk7|apply zk8|apply zk9) <;> intro hc)
    |(refine callP0 rfl ?_)
    |(refine callD0 rfl ?_)
    | fail)
   exact ret_on rfl rfl
  ·repeat' (first
    | (simp -implicitDefEqProofs only [*,List.flatten_nil,List.map_nil,zr,Nat.reduceAdd,Nat.reduceSub,Nat.reduceMul,Nat.reduceLT,Nat.reduceLeDiff,Nat.reduceEqDiff,Nat.reduceBEq,reduceIte,reduceCtorEq,Int.reduceLE,Int.reduceLT,Int.reduceToNat,Int.reduceEq,Int.reduceNe])
    | ((first|apply zk0|apply zk1|apply zk2|apply zk3|apply zk4|apply zk5|apply zk6|apply zk7|apply zk8|apply zk9) <;> intro hc)
    |(refine callP0 rfl ?_)
    |(refine callD0 rfl ?_)
    | fail)
   exact ret_o rfl (by simp)
 ·have h0' : (l.length = 0) = False := by rw [eq_iff_iff,iff_false];omega
  clear h0
  repeat' (first
   | (simp -implicitDefEqProofs only [*,zr,Nat.reduceAdd,Nat.reduceSub,Nat.reduceMul,Nat.reduceLT,Nat.reduceLeDiff,Nat.reduceEqDiff,Nat.reduceBEq,reduceIte,reduceCtorEq,Int.reduceLE,Int.reduceLT,Int.reduceToNat,Int.reduceEq,Int.reduceNe])
   | ((first|apply zk0|apply zk1|apply zk2|apply zk3|apply zk4|apply zk5|apply zk6|apply zk7|apply zk8|apply zk9) <;> intro hc)
   |(refine callP0 rfl ?_)
   |(refine callD0 rfl ?_)
   | fail)
  exact ret_o (by simp [cellsOf,H0,rowF]) (by rw [row_len (sz := 1) (fun _ => rfl)];omega)

theorem rowSt (l : List ByteArray) : rowF encSt l = l.map .str := by
 unfold rowF
 induction l with
 | nil => rfl
 | cons x l ih => rw [List.map_cons,List.flatten_cons,List.map_cons,ih];rfl
theorem cloneT_z (l : List ByteArray) (hl : l.length ≤ 10000000) : FRet Tryz.prog 39 [.f (frStrs l)] [.c (.v (frStrs l))] :=
 (cloneT_f l hl).frz (ys := [frStrs l]) ⟨⟨l.map (fun s => [.str s]),rfl,List.length_map _,fun r hr => by obtain ⟨y,_,rfl⟩ := List.mem_map.1 hr;rfl,by
  rw [rowSt,Nat.mul_one,List.take_of_length_le (by rw [List.length_map];exact Nat.le_refl _)]
  induction l with
  | nil => rfl
  | cons x l ih => rw [List.map_cons,List.map_cons,List.flatten_cons,← ih (by simp at hl;omega)];rfl⟩,rfl⟩
def cacheW : ByteArray := ⟨#[99,97,99,104,101]⟩
def blobW : ByteArray := ⟨#[98,108,111,98]⟩
def entryW : ByteArray := ⟨#[101,110,116,114,121]⟩
def lineW (c : Cache) (first : Bool) (w : List ByteArray) : Option Cache :=
 if hasS ⟨#[]⟩ w = true then none
 else if first = true then (if w[0]? = some cacheW then (match nvL (w.drop 1) with
  | [a,b] => some (a,b,c.2.2.1,c.2.2.2)
  | _ => none) else none)
 else if w[0]? = some blobW ∧ w.length = 6 ∧ c.2.2.2.length = 0 then (match w[1]?,nvL (w.drop 2) with
  | some d,[n0,n1,n2,n3] => some (c.1,c.2.1,c.2.2.1 ++ [(d,n0,n1,n2,n3)],c.2.2.2)
  | _,_ => none)
 else if w[0]? = some entryW ∧ 3 ≤ w.length then (match w[1]?,nvL ((w.drop 2).take 1) with
  | some d,[n0] => some (c.1,c.2.1,c.2.2.1,c.2.2.2 ++ [(d,w.drop 3,n0)])
  | _,_ => none)
 else none
theorem nvL_some {l : List ByteArray} (h : (numV l).isSome = true) : (nvL l).length = l.length := by
 obtain ⟨n,hn⟩ := Option.isSome_iff_exists.1 h
 unfold nvL
 rw [hn]
 exact numV_len hn
theorem nvL_none {l : List ByteArray} (h : (numV l).isSome = false) : nvL l = [] := by
 unfold nvL
 cases hq : numV l with
 | none => rfl
 | some n => rw [hq] at h;cases h
theorem nvL_it {l : List ByteArray} (h : nvL l ≠ []) : (nvL l).map itB = l := by
 cases hq : numV l with
 | none => exact absurd (nvL_none (by rw [hq];rfl)) h
 | some n => rw [show nvL l = n by unfold nvL;rw [hq];rfl];exact numV_some hq
end Go.Proofs.YthniagdphhcnkaaGreatDoor
