/-
  The cache's own, digestsOf, checkAt, held, drop, Swept on the machine. No statement of the seat is proved here; no conditions.
-/
import Derived.Test.YtanhelgblnmdcaaDoorLowA
import Derived.Test.YtanhelgblnmdcaaDoorCaC
import Derived.Test.YtanhelgblnmdcaaDoorEngV
import Derived.Test.YtanhelgblnmdcaaDoorOrd
namespace Go.Proofs.YtanhelgblnmdcaaDoor
open Go.RowKit Go.Shelf
set_option linter.unusedVariables false
set_option linter.unusedSimpArgs false
set_option maxRecDepth 100000

def encS (s : ByteArray) : List FV := [.str s]
theorem cloneB_f (l : List Blob) (hl : l.length ≤ 1000000) : FRet Tryd.prog 19 [.f (.fr 5 (l.map fBlob))] [.c (.own 5 l.length (rowF fBlob l))] := by
 refine FCall.of_ax low_slices_Clone_api_Blob_api_Blob ?_
 dsimp only [l_slices_Clone_api_Blob_api_Blob]
 refine srun_sound 300 _ _ _ _ ?_
 have h1 : (l.length * 48 ≤ 140737488355328) = True := by rw [eq_iff_iff,iff_true];omega
 rcases Nat.eq_zero_or_pos l.length with h0 | h0
 ·obtain rfl := List.eq_nil_of_length_eq_zero h0
  repeat' (first
   | (simp -implicitDefEqProofs only [*,condS_bit,List.flatten_nil,List.map_nil,zr,Nat.reduceAdd,Nat.reduceSub,Nat.reduceMul,Nat.reduceLT,Nat.reduceLeDiff,Nat.reduceEqDiff,Nat.reduceBEq,reduceIte,reduceCtorEq,Int.reduceLE,Int.reduceLT,Int.reduceToNat,Int.reduceEq,Int.reduceNe])
   | ((first|apply zk0|apply zk1|apply zk2|apply zk3|apply zk4|apply zk5|apply zk6|apply zk7|apply zk8|apply zk9) <;> intro hc)
   |(refine callP0 rfl ?_)
   |(refine callD0 rfl ?_)
   | fail)
  refine ⟨?_,?_⟩
  ·repeat' (first
    | (simp -implicitDefEqProofs only [*,List.flatten_nil,List.map_nil,zr,Nat.reduceAdd,Nat.reduceSub,Nat.reduceMul,Nat.reduceLT,Nat.reduceLeDiff,Nat.reduceEqDiff,Nat.reduceBEq,reduceIte,reduceCtorEq,Int.reduceLE,Int.reduceLT,Int.reduceToNat,Int.reduceEq,Int.reduceNe])
    | ((first|apply zk0|apply zk1|apply zk2|apply zk3|apply zk4|apply zk5|apply zk6|apply zk7|apply zk8|apply zk9) <;> intro hc)
    |(refine callP0 rfl ?_)
    |(refine callD0 rfl ?_)
    | fail)
   exact ret_on rfl rfl
  ·repeat' (first
    | (simp -implicitDefEqProofs only [*,List.flatten_nil,List.map_nil,zr,Nat.reduceAdd,Nat.reduceSub,Nat.reduceMul,Nat.reduceLT,Nat.reduceLeDiff,Nat.reduceEqDiff,Nat.reduceBEq,reduceIte,reduceCtorEq,Int.reduceLE,Int.reduceLT,Int.reduceToNat,Int.reduceEq,Int.reduceNe])
    | ((first|apply zk0|apply zk1|apply zk2|apply zk3|apply zk4|apply zk5|apply zk6|apply zk7|apply zk8|apply zk9) <;> intro hc)
    |(refine callP0 rfl ?_)
    |(refine callD0 rfl ?_)
    | fail)
   exact ret_o rfl (by simp)
 ·have h0' : (l.length = 0) = False := by rw [eq_iff_iff,iff_false];omega
  clear h0
  repeat' (first
   | (simp -implicitDefEqProofs only [*,zr,Nat.reduceAdd,Nat.reduceSub,Nat.reduceMul,Nat.reduceLT,Nat.reduceLeDiff,Nat.reduceEqDiff,Nat.reduceBEq,reduceIte,reduceCtorEq,Int.reduceLE,Int.reduceLT,Int.reduceToNat,Int.reduceEq,Int.reduceNe])
   | ((first|apply zk0|apply zk1|apply zk2|apply zk3|apply zk4|apply zk5|apply zk6|apply zk7|apply zk8|apply zk9) <;> intro hc)
   |(refine callP0 rfl ?_)
   |(refine callD0 rfl ?_)
   | fail)
  exact ret_o (by simp [cellsOf,H0,rowF]) (by rw [row_len (sz := 5) (fun _ => rfl)];omega)

theorem cloneE_f (l : List Entry) (hl : l.length ≤ 1000000) : FRet Tryd.prog 20 [.f (.fr 3 (l.map fEntry))] [.c (.own 3 l.length (rowF fEntry l))] := by
 refine FCall.of_ax low_slices_Clone_api_Entry_api_Entry ?_
 dsimp only [l_slices_Clone_api_Entry_api_Entry]
 refine srun_sound 300 _ _ _ _ ?_
 have h1 : (l.length * 48 ≤ 140737488355328) = True := by rw [eq_iff_iff,iff_true];omega
 rcases Nat.eq_zero_or_pos l.length with h0 | h0
 ·obtain rfl := List.eq_nil_of_length_eq_zero h0
  repeat' (first
   | (simp -implicitDefEqProofs only [*,condS_bit,List.flatten_nil,List.map_nil,zr,Nat.reduceAdd,Nat.reduceSub,Nat.reduceMul,Nat.reduceLT,Nat.reduceLeDiff,Nat.reduceEqDiff,Nat.reduceBEq,reduceIte,reduceCtorEq,Int.reduceLE,Int.reduceLT,Int.reduceToNat,Int.reduceEq,Int.reduceNe])
   | ((first|apply zk0|apply zk1|apply zk2|apply zk3|apply zk4|apply zk5|apply zk6|apply zk7|apply zk8|apply zk9) <;> intro hc)
   |(refine callP0 rfl ?_)
   |(refine callD0 rfl ?_)
   | fail)
  refine ⟨?_,?_⟩
  ·repeat' (first
    | (simp -implicitDefEqProofs only [*,List.flatten_nil,List.map_nil,zr,Nat.reduceAdd,Nat.reduceSub,Nat.reduceMul,Nat.reduceLT,Nat.reduceLeDiff,Nat.reduceEqDiff,Nat.reduceBEq,reduceIte,reduceCtorEq,Int.reduceLE,Int.reduceLT,Int.reduceToNat,Int.reduceEq,Int.reduceNe])
    | ((first|apply zk0|apply zk1|apply zk2|apply zk3|apply zk4|apply zk5|apply zk6|apply zk7|apply zk8|apply zk9) <;> intro hc)
    |(refine callP0 rfl ?_)
    |(refine callD0 rfl ?_)
    | fail)
   exact ret_on rfl rfl
  ·repeat' (first
    | (simp -implicitDefEqProofs only [*,List.flatten_nil,List.map_nil,zr,Nat.reduceAdd,Nat.reduceSub,Nat.reduceMul,Nat.reduceLT,Nat.reduceLeDiff,Nat.reduceEqDiff,Nat.reduceBEq,reduceIte,reduceCtorEq,Int.reduceLE,Int.reduceLT,Int.reduceToNat,Int.reduceEq,Int.reduceNe])
    | ((first|apply zk0|apply zk1|apply zk2|apply zk3|apply zk4|apply zk5|apply zk6|apply zk7|apply zk8|apply zk9) <;> intro hc)
    |(refine callP0 rfl ?_)
    |(refine callD0 rfl ?_)
    | fail)
   exact ret_o rfl (by simp)
 ·have h0' : (l.length = 0) = False := by rw [eq_iff_iff,iff_false];omega
  clear h0
  repeat' (first
   | (simp -implicitDefEqProofs only [*,zr,Nat.reduceAdd,Nat.reduceSub,Nat.reduceMul,Nat.reduceLT,Nat.reduceLeDiff,Nat.reduceEqDiff,Nat.reduceBEq,reduceIte,reduceCtorEq,Int.reduceLE,Int.reduceLT,Int.reduceToNat,Int.reduceEq,Int.reduceNe])
   | ((first|apply zk0|apply zk1|apply zk2|apply zk3|apply zk4|apply zk5|apply zk6|apply zk7|apply zk8|apply zk9) <;> intro hc)
   |(refine callP0 rfl ?_)
   |(refine callD0 rfl ?_)
   | fail)
  exact ret_o (by simp [cellsOf,H0,rowF]) (by rw [row_len (sz := 3) (fun _ => rfl)];omega)

theorem cloneS_f (l : List ByteArray) (hl : l.length ≤ 1000000) : FRet Tryd.prog 21 [.f (.fr 1 (l.map encS))] [.c (.own 1 l.length (rowF encS l))] := by
 refine FCall.of_ax low_slices_Clone_string_string ?_
 dsimp only [l_slices_Clone_string_string]
 refine srun_sound 300 _ _ _ _ ?_
 have h1 : (l.length * 16 ≤ 140737488355328) = True := by rw [eq_iff_iff,iff_true];omega
 rcases Nat.eq_zero_or_pos l.length with h0 | h0
 ·obtain rfl := List.eq_nil_of_length_eq_zero h0
  repeat' (first
   | (simp -implicitDefEqProofs only [*,condS_bit,List.flatten_nil,List.map_nil,zr,Nat.reduceAdd,Nat.reduceSub,Nat.reduceMul,Nat.reduceLT,Nat.reduceLeDiff,Nat.reduceEqDiff,Nat.reduceBEq,reduceIte,reduceCtorEq,Int.reduceLE,Int.reduceLT,Int.reduceToNat,Int.reduceEq,Int.reduceNe])
   | ((first|apply zk0|apply zk1|apply zk2|apply zk3|apply zk4|apply zk5|apply zk6|apply zk7|apply zk8|apply zk9) <;> intro hc)
   |(refine callP0 rfl ?_)
   |(refine callD0 rfl ?_)
   | fail)
  refine ⟨?_,?_⟩
  ·repeat' (first
    | (simp -implicitDefEqProofs only [*,List.flatten_nil,List.map_nil,zr,Nat.reduceAdd,Nat.reduceSub,Nat.reduceMul,Nat.reduceLT,Nat.reduceLeDiff,Nat.reduceEqDiff,Nat.reduceBEq,reduceIte,reduceCtorEq,Int.reduceLE,Int.reduceLT,Int.reduceToNat,Int.reduceEq,Int.reduceNe])
    | ((first|apply zk0|apply zk1|apply zk2|apply zk3|apply zk4|apply zk5|apply zk6|apply zk7|apply zk8|apply zk9) <;> intro hc)
    |(refine callP0 rfl ?_)
    |(refine callD0 rfl ?_)
    | fail)
   exact ret_on rfl rfl
  ·repeat' (first
    | (simp -implicitDefEqProofs only [*,List.flatten_nil,List.map_nil,zr,Nat.reduceAdd,Nat.reduceSub,Nat.reduceMul,Nat.reduceLT,Nat.reduceLeDiff,Nat.reduceEqDiff,Nat.reduceBEq,reduceIte,reduceCtorEq,Int.reduceLE,Int.reduceLT,Int.reduceToNat,Int.reduceEq,Int.reduceNe])
    | ((first|apply zk0|apply zk1|apply zk2|apply zk3|apply zk4|apply zk5|apply zk6|apply zk7|apply zk8|apply zk9) <;> intro hc)
    |(refine callP0 rfl ?_)
    |(refine callD0 rfl ?_)
    | fail)
   exact ret_o rfl (by simp)
 ·have h0' : (l.length = 0) = False := by rw [eq_iff_iff,iff_false];omega
  clear h0
  repeat' (first
   | (simp -implicitDefEqProofs only [*,zr,Nat.reduceAdd,Nat.reduceSub,Nat.reduceMul,Nat.reduceLT,Nat.reduceLeDiff,Nat.reduceEqDiff,Nat.reduceBEq,reduceIte,reduceCtorEq,Int.reduceLE,Int.reduceLT,Int.reduceToNat,Int.reduceEq,Int.reduceNe])
   | ((first|apply zk0|apply zk1|apply zk2|apply zk3|apply zk4|apply zk5|apply zk6|apply zk7|apply zk8|apply zk9) <;> intro hc)
   |(refine callP0 rfl ?_)
   |(refine callD0 rfl ?_)
   | fail)
  exact ret_o (by simp [cellsOf,H0,rowF]) (by rw [row_len (sz := 1) (fun _ => rfl)];omega)

section
variable {α : Type} {p : α → Bool} {l m : List α} {i j : Nat} {x : α}
def keepL (p : α → Bool) (l : List α) : List α := l.filter fun x => !p x
theorem ix_cases (p : α → Bool) : ∀ l : List α,(ixV p l = -1 ∧ keepL p l = l) ∨ ∃ (i : Nat) (x : α),ixV p l = i ∧ l[i]? = some x ∧ p x = true ∧ keepL p (l.take i) = l.take i
 | [] => .inl ⟨rfl,rfl⟩
 | y :: l => by
  cases hy : p y
  ·rcases ix_cases p l with ⟨h1,h2⟩ | ⟨i,x,h1,h2,h3,h4⟩
   ·refine .inl ⟨by simp [ixV,hy,h1],?_⟩
    simp only [keepL] at h2 ⊢
    rw [List.filter_cons_of_pos (by simp [hy]),h2]
   ·refine .inr ⟨i + 1,x,?_,by simpa using h2,h3,?_⟩
    ·simp only [ixV,hy,h1]
     rw [if_neg (by simp),if_neg (by omega)];omega
    ·simp only [keepL,List.take_succ_cons] at h4 ⊢
     rw [List.filter_cons_of_pos (by simp [hy]),h4]
  ·exact .inr ⟨0,y,by simp [ixV,hy],rfl,hy,rfl⟩
structure Del (p : α → Bool) (l : List α) (i j : Nat) (m : List α) : Prop where
 ij : i < j
 jl : j ≤ l.length
 ml : m.length = l.length
 tk : m.take i = keepL p (l.take j)
 dr : m.drop j = l.drop j
theorem keep_snoc (hx : l[j]? = some x) : keepL p (l.take (j + 1)) = keepL p (l.take j) ++ if p x = true then [] else [x] := by
 rw [List.take_add_one,hx,keepL,List.filter_append,← keepL]
 cases hp : p x <;> simp [hp]
theorem keep_start (hx : l[i]? = some x) (hp : p x = true) (h : keepL p (l.take i) = l.take i) : Del p l i (i + 1) l :=
 ⟨by omega,(List.getElem?_eq_some_iff.1 hx).1,rfl,by rw [keep_snoc hx,if_pos hp,List.append_nil,h],rfl⟩
theorem del_at (h : m.drop j = l.drop j) (hx : l[j]? = some x) : m[j]? = some x := by
 have : (m.drop j)[0]? = (l.drop j)[0]? := by rw [h]
 simpa [hx] using this
theorem del_keep (hij : i < j) (hj : j < l.length) (hml : m.length = l.length) (ht : m.take i = keepL p (l.take j)) (hd : m.drop j = l.drop j) (hm : x ∈ l) (hx : l[j]? = some x) (hp : p x = false) : Del p l (i + 1) (j + 1) (m.set i x) := by
 refine ⟨by omega,hj,by simp [hml],?_,?_⟩
 ·rw [keep_snoc hx,if_neg (by simp [hp]),← ht,List.take_add_one,List.getElem?_set_self (by omega),List.take_set_of_le (Nat.le_refl _)];rfl
 ·rw [List.drop_set_of_lt (by omega),← List.drop_drop,← List.drop_drop,hd]
theorem del_drop (hij : i < j) (hj : j < l.length) (hml : m.length = l.length) (ht : m.take i = keepL p (l.take j)) (hd : m.drop j = l.drop j) (hm : x ∈ l) (hx : l[j]? = some x) (hp : p x = true) : Del p l i (j + 1) m := by
 refine ⟨by omega,hj,hml,?_,?_⟩
 ·rw [keep_snoc hx,if_pos hp,List.append_nil,ht]
 ·rw [← List.drop_drop,← List.drop_drop,hd]
end
theorem ixf_blob (l : List Blob) (fn : FuncId) (caps : List AV) (p : Blob → Bool) (hl : l.length ≤ 1000000) (hp : ∀ x ∈ l,FRet Tryd.prog fn ([.agg ((fBlob x).map .f)] ++ caps) [.c (.v (.bool (p x)))]) (hcp : caps.all AV.pure = true) :
  FRet Tryd.prog 65 [.f (.fr 5 (l.map fBlob)),.clo (.func fn) caps] [.c (.v (.int .i64 (ixV p l)))] := by
 refine FCall.of_ax low_slices_IndexFunc_api_Blob_api_Blob ?_
 dsimp only [l_slices_IndexFunc_api_Blob_api_Blob]
 refine srun_sound 300 _ _ _ _ ?_
 repeat' (first
  | (simp -implicitDefEqProofs only [*,zr,Nat.reduceAdd,Nat.reduceSub,Nat.reduceMul,Nat.reduceLT,Nat.reduceLeDiff,Nat.reduceEqDiff,Nat.reduceBEq,reduceIte,reduceCtorEq,Int.reduceLE,Int.reduceLT,Int.reduceToNat,Int.reduceEq,Int.reduceNe])
  | ((first|apply zk0|apply zk1|apply zk2|apply zk3|apply zk4|apply zk5|apply zk6|apply zk7|apply zk8|apply zk9) <;> intro hc)
  |(refine callP0 rfl ?_)
  |(refine callD0 rfl ?_)
  | fail)
 refine ax_loopU (S := Nat) 19 [0,1,7] [] (fun s => [(8,.f (.int .i64 s))]) (fun s => []) (fun s => s ≤ l.length ∧ ∀ k x,k < s → l[k]? = some x → p x = false) (fun s => l.length - s) (0) [] ?_ ?_ fun s hs => ?_
 ·exact ⟨Nat.zero_le _,fun k x h => absurd h (by omega)⟩
 ·refine wk_i ?_ ?_ <;> simp only [hcp,so_clo,zw,Nat.reduceEqDiff,Nat.reduceBEq,Nat.reduceLT,Nat.reduceLeDiff,reduceIte,reduceCtorEq]
 obtain ⟨hi,hall⟩ := hs
 refine srun_sound 300 _ _ _ _ ?_
 have hA := hide hall
 clear hall
 rcases Nat.lt_or_ge s l.length with hlt | hge
 ·obtain ⟨x,hx⟩ := get_some hlt
  have h4 := inc64 hlt (by omega)
  have h2 := lt_t hlt
  have hm := List.mem_of_getElem? hx
  cases hpx : p x
  ·repeat' (first
    | (simp -implicitDefEqProofs only [*,List.getElem?_map,Option.map_some,fBlob,zr,Nat.reduceAdd,Nat.reduceSub,Nat.reduceMul,Nat.reduceLT,Nat.reduceLeDiff,Nat.reduceEqDiff,Nat.reduceBEq,reduceIte,reduceCtorEq,Int.reduceLE,Int.reduceLT,Int.reduceToNat,Int.reduceEq,Int.reduceNe])
    | ((first|apply zk0|apply zk1|apply zk2|apply zk3|apply zk4|apply zk5|apply zk6|apply zk7|apply zk8|apply zk9) <;> intro hc)
    |(refine callP0 rfl ?_)
    |(refine callD0 rfl ?_)
    |(refine cC (hp x hm) ?_)
    | fail)
   refine ⟨s + 1,⟨hlt,fun k y hk hy => ?_⟩,by omega,?_⟩
   ·rcases Nat.lt_succ_iff_lt_or_eq.1 hk with h1 | rfl
    ·exact hA.out k y h1 hy
    ·rw [hx] at hy;obtain rfl := Option.some.inj hy;exact hpx
   ·refine wk_i ?_ ?_ <;> simp only [hcp,so_clo,zw,Nat.reduceEqDiff,Nat.reduceBEq,Nat.reduceLT,Nat.reduceLeDiff,reduceIte,reduceCtorEq]
  ·have he := ix_hit hA.out hx hpx
   repeat' (first
    | (simp -implicitDefEqProofs only [*,List.getElem?_map,Option.map_some,fBlob,zr,Nat.reduceAdd,Nat.reduceSub,Nat.reduceMul,Nat.reduceLT,Nat.reduceLeDiff,Nat.reduceEqDiff,Nat.reduceBEq,reduceIte,reduceCtorEq,Int.reduceLE,Int.reduceLT,Int.reduceToNat,Int.reduceEq,Int.reduceNe])
    | ((first|apply zk0|apply zk1|apply zk2|apply zk3|apply zk4|apply zk5|apply zk6|apply zk7|apply zk8|apply zk9) <;> intro hc)
    |(refine callP0 rfl ?_)
    |(refine callD0 rfl ?_)
    |(refine cC (hp x hm) ?_)
    | fail)
   exact ret_ve rfl
 ·obtain rfl : s = l.length := by omega
  have h2 := lt_f hge
  have he := ix_none hA.out
  repeat' (first
   | (simp -implicitDefEqProofs only [*,zr,Nat.reduceAdd,Nat.reduceSub,Nat.reduceMul,Nat.reduceLT,Nat.reduceLeDiff,Nat.reduceEqDiff,Nat.reduceBEq,reduceIte,reduceCtorEq,Int.reduceLE,Int.reduceLT,Int.reduceToNat,Int.reduceEq,Int.reduceNe])
   | ((first|apply zk0|apply zk1|apply zk2|apply zk3|apply zk4|apply zk5|apply zk6|apply zk7|apply zk8|apply zk9) <;> intro hc)
   |(refine callP0 rfl ?_)
   |(refine callD0 rfl ?_)
   | fail)
  exact ret_ve rfl
theorem delf_blob (l : List Blob) (fn : FuncId) (caps : List AV) (p : Blob → Bool) (hl : l.length ≤ 1000000) (hp : ∀ x ∈ l,FRet Tryd.prog fn ([.agg ((fBlob x).map .f)] ++ caps) [.c (.v (.bool (p x)))]) (hcp : caps.all AV.pure = true) :
  FRetM Tryd.prog 49 [.c (.own 5 l.length (rowF fBlob l))] [.clo (.func fn) caps] [.c (.own 5 (keepL p l).length (rowF fBlob (keepL p l) ++ (List.replicate (l.length - (keepL p l).length) [.str ⟨#[]⟩,.int .i64 0,.int .i64 0,.int .i64 0,.int .i64 0]).flatten))] := by
 have hs5 : ∀ x,(fBlob x).length = 5 := fun _ => rfl
 refine FCall.of_ax low_slices_DeleteFunc_api_Blob_api_Blob ?_
 dsimp only [l_slices_DeleteFunc_api_Blob_api_Blob]
 refine srun_sound 300 _ _ _ _ ?_
 have hS := hide hs5
 clear hs5
 repeat' (first
  | (simp -implicitDefEqProofs only [*,zr,Nat.reduceAdd,Nat.reduceSub,Nat.reduceMul,Nat.reduceLT,Nat.reduceLeDiff,Nat.reduceEqDiff,Nat.reduceBEq,reduceIte,reduceCtorEq,Int.reduceLE,Int.reduceLT,Int.reduceToNat,Int.reduceEq,Int.reduceNe])
  | ((first|apply zk0|apply zk1|apply zk2|apply zk3|apply zk4|apply zk5|apply zk6|apply zk7|apply zk8|apply zk9) <;> intro hc)
  |(refine callP0 rfl ?_)
  |(refine callD0 rfl ?_)
  | fail)
 refine callF rfl (ixf_blob l fn caps p hl hp hcp) rfl ?_ rfl (by first | exact free_0 | exact free_mk rfl | (repeat (first|exact free_0 | exact free_mk rfl | refine free_upd rfl ?_))) ?_
 ·show SlotsOk _ _ _ [.sl 80000 1 5 0 l.length,.clo (.func fn) caps] [.f (.fr 5 (l.map fBlob)),.clo (.func fn) caps]
  rw [so_cons,so_cons,so_nil]
  exact ⟨so_row0 hS.out rfl (by simp [cellsOf,upd_get]) rfl,so_clo hcp,trivial⟩
 rcases ix_cases p l with ⟨he,hall⟩ | ⟨i0,x0,he,hx0,hp0,hall⟩
 ·have hk : keepL p l = l := hall
  rw [hk,Nat.sub_self]
  clear hall hk
  repeat' (first
   | (simp -implicitDefEqProofs only [*,zr,Nat.reduceAdd,Nat.reduceSub,Nat.reduceMul,Nat.reduceLT,Nat.reduceLeDiff,Nat.reduceEqDiff,Nat.reduceBEq,reduceIte,reduceCtorEq,Int.reduceLE,Int.reduceLT,Int.reduceToNat,Int.reduceEq,Int.reduceNe])
   | ((first|apply zk0|apply zk1|apply zk2|apply zk3|apply zk4|apply zk5|apply zk6|apply zk7|apply zk8|apply zk9) <;> intro hc)
   |(refine callP0 rfl ?_)
   |(refine callD0 rfl ?_)
   | fail)
  exact ret_oe rfl (by simp [cellsOf,upd_get];rfl) (by simp) (by simp [row_len hS.out])
 have hi0 := (List.getElem?_eq_some_iff.1 hx0).1
 have h4 := inc64 hi0 (by omega)
 have hne : decide ((i0 : Int) = -1) = false := by rw [decide_eq_false_iff_not];omega
 have hk0 := hide (keep_start hx0 hp0 hall)
 clear hall hx0 hp0
 repeat' (first
  | (simp -implicitDefEqProofs only [*,zr,Nat.reduceAdd,Nat.reduceSub,Nat.reduceMul,Nat.reduceLT,Nat.reduceLeDiff,Nat.reduceEqDiff,Nat.reduceBEq,reduceIte,reduceCtorEq,Int.reduceLE,Int.reduceLT,Int.reduceToNat,Int.reduceEq,Int.reduceNe])
  | ((first|apply zk0|apply zk1|apply zk2|apply zk3|apply zk4|apply zk5|apply zk6|apply zk7|apply zk8|apply zk9) <;> intro hc)
  |(refine callP0 rfl ?_)
  |(refine callD0 rfl ?_)
  | fail)
 refine ax_loopU (S := Nat × Nat × List Blob) 42 [0,1] [] (fun s => [(5,.f (.int .i64 s.1)),(6,.f (.int .i64 s.2.1))]) (fun s => [(80000,1,(rowF fBlob s.2.2).map AV.f)]) (fun s => Del p l s.1 s.2.1 s.2.2) (fun s => l.length - s.2.1) (i0,i0 + 1,l) [] ?_ ?_ fun s hs => ?_
 ·exact hk0.out
 ·refine wk_i ?_ ?_ <;> simp only [hcp,so_clo,zw,Nat.reduceEqDiff,Nat.reduceBEq,Nat.reduceLT,Nat.reduceLeDiff,reduceIte,reduceCtorEq]
 obtain ⟨i,j,m⟩ := s
 dsimp only at hs ⊢
 obtain ⟨hij,hj,hml,htake,hdrop⟩ := hs
 have hT := hide htake
 have hD := hide hdrop
 clear htake hdrop hk0 he hne h4 hi0
 refine srun_sound 300 _ _ _ _ ?_
 rcases Nat.lt_or_ge j l.length with hlt | hge
 ·obtain ⟨x,hx⟩ := get_some hlt
  have hmx : m[j]? = some x := del_at hD.out hx
  have h4 := inc64 hlt (by omega)
  have h5 := inc64 (i := i) (n := l.length) (by omega) (by omega)
  have h2 := lt_t hlt
  have hm := List.mem_of_getElem? hx
  have hil : i < l.length := by omega
  have hld := row_get hS.out hmx
  have hin1 := row_in (l := m) hS.out (by omega : j < m.length)
  have hin2 := row_in (l := m) hS.out (by omega : i < m.length)
  have hst := row_set (x := x) hS.out (by omega : i < m.length)
  simp only [fBlob,List.map_cons,List.map_nil,List.length_map,splice] at hld hin1 hin2 hst
  have hX := hide hx
  clear hx hmx
  cases hpx : p x
  ·repeat' (first
    | (simp -implicitDefEqProofs only [*,fBlob,zr,Nat.reduceAdd,Nat.reduceSub,Nat.reduceMul,Nat.reduceLT,Nat.reduceLeDiff,Nat.reduceEqDiff,Nat.reduceBEq,reduceIte,reduceCtorEq,Int.reduceLE,Int.reduceLT,Int.reduceToNat,Int.reduceEq,Int.reduceNe])
    | ((first|apply zk0|apply zk1|apply zk2|apply zk3|apply zk4|apply zk5|apply zk6|apply zk7|apply zk8|apply zk9) <;> intro hc)
    |(refine callP0 rfl ?_)
    |(refine callD0 rfl ?_)
    |(refine cC (hp x hm) ?_)
    | fail)
   refine ⟨(i + 1,j + 1,m.set i x),del_keep hij hlt hml hT.out hD.out hm hX.out hpx,by simp only;omega,?_⟩
   refine wk_i ?_ ?_ <;> simp only [hcp,so_clo,zw,Nat.reduceEqDiff,Nat.reduceBEq,Nat.reduceLT,Nat.reduceLeDiff,reduceIte,reduceCtorEq]
  ·repeat' (first
    | (simp -implicitDefEqProofs only [*,fBlob,zr,Nat.reduceAdd,Nat.reduceSub,Nat.reduceMul,Nat.reduceLT,Nat.reduceLeDiff,Nat.reduceEqDiff,Nat.reduceBEq,reduceIte,reduceCtorEq,Int.reduceLE,Int.reduceLT,Int.reduceToNat,Int.reduceEq,Int.reduceNe])
    | ((first|apply zk0|apply zk1|apply zk2|apply zk3|apply zk4|apply zk5|apply zk6|apply zk7|apply zk8|apply zk9) <;> intro hc)
    |(refine callP0 rfl ?_)
    |(refine callD0 rfl ?_)
    |(refine cC (hp x hm) ?_)
    | fail)
   refine ⟨(i,j + 1,m),del_drop hij hlt hml hT.out hD.out hm hX.out hpx,by simp only;omega,?_⟩
   refine wk_i ?_ ?_ <;> simp only [hcp,so_clo,zw,Nat.reduceEqDiff,Nat.reduceBEq,Nat.reduceLT,Nat.reduceLeDiff,reduceIte,reduceCtorEq]
 ·obtain rfl : j = l.length := by omega
  have h2 := lt_f hge
  have e1 : m.take i = keepL p l := by rw [hT.out,List.take_length]
  have e2 : (keepL p l).length = i := by rw [← e1,List.length_take];omega
  have hil : i ≤ l.length := by omega
  have hin : (i + (l.length - i) = l.length) := by omega
  have hlen : (l.length * 5 ≤ (rowF fBlob m).length) = True := by rw [eq_iff_iff,iff_true,row_len hS.out];omega
  have hz := row_tail (l := m) (z := [.str ⟨#[]⟩,.int .i64 0,.int .i64 0,.int .i64 0,.int .i64 0]) hS.out rfl (by omega : i ≤ m.length)
  rw [hml] at hz
  repeat' (first
   | (simp -implicitDefEqProofs only [*,Nat.sub_zero,Int.ofNat_le,Nat.le_refl,zr,Nat.reduceAdd,Nat.reduceSub,Nat.reduceMul,Nat.reduceLT,Nat.reduceLeDiff,Nat.reduceEqDiff,Nat.reduceBEq,reduceIte,reduceCtorEq,Int.reduceLE,Int.reduceLT,Int.reduceToNat,Int.reduceEq,Int.reduceNe])
   | ((first|apply zk0|apply zk1|apply zk2|apply zk3|apply zk4|apply zk5|apply zk6|apply zk7|apply zk8|apply zk9) <;> intro hc)
   |(refine callP0 rfl ?_)
   |(refine callD0 rfl ?_)
   | fail)
  exact ret_oe rfl (by rw [upd_same,cellsOf_some]) rfl (by rw [List.length_append,row_len hS.out,e2];omega)

def heldB (b : Blob) (at_ : Int) : Bool := decide (0 < b.2.2.2.2) || decide (at_ < b.2.2.2.1)
theorem held_f (b : Blob) (at_ : Int) : FRet Tryd.prog 31 [.agg ((fBlob b).map .f),.f (.int .i64 at_)] [.c (.v (.bool (heldB b at_)))] := by
 refine FCall.of_ax low_cache_held ?_
 dsimp only [l_cache_held,fBlob]
 refine srun_sound 300 _ _ _ _ ?_
 unfold heldB
 repeat' (first
  | (simp -implicitDefEqProofs only [*,zr,Nat.reduceAdd,Nat.reduceSub,Nat.reduceMul,Nat.reduceLT,Nat.reduceLeDiff,Nat.reduceEqDiff,Nat.reduceBEq,reduceIte,reduceCtorEq,Int.reduceLE,Int.reduceLT,Int.reduceToNat,Int.reduceEq,Int.reduceNe])
  | ((first|apply zk0|apply zk1|apply zk2|apply zk3|apply zk4|apply zk5|apply zk6|apply zk7|apply zk8|apply zk9) <;> intro hc)
  |(refine callP0 rfl ?_)
  |(refine callD0 rfl ?_)
  | fail)
 all_goals exact ret_ve (by simp [*])
theorem dropC_f (b : Blob) (l : List ByteArray) : FRet Tryd.prog 50 ([.agg ((fBlob b).map .f)] ++ [.f (.fp [.fm (setL l)])]) [.c (.v (.bool (hasS b.1 l)))] := by
 refine FCall.of_ax low_cache_drop_c1 ?_
 dsimp only [l_cache_drop_c1,fBlob]
 refine srun_sound 300 _ _ _ _ ?_
 cases hh : hasS b.1 l
 ·have h := mGet_f hh
  repeat' (first
   | (simp -implicitDefEqProofs only [*,zr,Nat.reduceAdd,Nat.reduceSub,Nat.reduceMul,Nat.reduceLT,Nat.reduceLeDiff,Nat.reduceEqDiff,Nat.reduceBEq,reduceIte,reduceCtorEq,Int.reduceLE,Int.reduceLT,Int.reduceToNat,Int.reduceEq,Int.reduceNe])
   | ((first|apply zk0|apply zk1|apply zk2|apply zk3|apply zk4|apply zk5|apply zk6|apply zk7|apply zk8|apply zk9) <;> intro hc)
   |(refine callP0 rfl ?_)
   |(refine callD0 rfl ?_)
   | fail)
  exact ret_ve rfl
 ·have h := mGet_t hh
  repeat' (first
   | (simp -implicitDefEqProofs only [*,zr,Nat.reduceAdd,Nat.reduceSub,Nat.reduceMul,Nat.reduceLT,Nat.reduceLeDiff,Nat.reduceEqDiff,Nat.reduceBEq,reduceIte,reduceCtorEq,Int.reduceLE,Int.reduceLT,Int.reduceToNat,Int.reduceEq,Int.reduceNe])
   | ((first|apply zk0|apply zk1|apply zk2|apply zk3|apply zk4|apply zk5|apply zk6|apply zk7|apply zk8|apply zk9) <;> intro hc)
   |(refine callP0 rfl ?_)
   |(refine callD0 rfl ?_)
   | fail)
  exact ret_ve rfl
theorem ret_own5 {room lease : FV} {n m : Nat} {cs ds : List FV} {i v j u : Nat} {H : Heap} (h1 : cellsOf v (H i) = some (cs.map .f)) (h2 : cellsOf u (H j) = some (ds.map .f)) (h3 : n * 5 ≤ cs.length) (h4 : m * 3 ≤ ds.length) (hij : decide (i = j) = false := by rfl) : Rets [.agg [.v room,.v lease,.own 5 n cs,.own 3 m ds]] (.agg [.f room,.f lease,.sl i v 5 0 n,.sl j u 3 0 m]) H :=
 ⟨[_],rfl,⟨⟨rfl,rfl,.inr ⟨_,_,rfl,h1,h3⟩,.inr ⟨_,_,rfl,h2,h4⟩,rfl⟩,rfl⟩,by
  have := of_decide_eq_false hij
  simp [idsS,idsC,this]⟩
theorem own_f (c : Cache) (hb : c.2.2.1.length ≤ 1000000) (he : c.2.2.2.length ≤ 1000000) (hr : ∀ e ∈ c.2.2.2,e.2.1.length ≤ 1000000) :
  FRet Tryd.prog 10 [aCache c] [.agg [.v (.int .i64 c.1),.v (.int .i64 c.2.1),.own 5 c.2.2.1.length (rowF fBlob c.2.2.1),.own 3 c.2.2.2.length (rowF fEntry c.2.2.2)]] := by
 obtain ⟨room,lease,bl,en⟩ := c
 simp only at hb he hr ⊢
 have hR := hide hr
 clear hr
 refine FCall.of_ax low_cache_own ?_
 dsimp only [l_cache_own,aCache]
 refine srun_sound 300 _ _ _ _ ?_
 repeat' (first
  | (simp -implicitDefEqProofs only [*,frBlobs,frEntries,addFp_wr,zr,Nat.reduceAdd,Nat.reduceSub,Nat.reduceMul,Nat.reduceLT,Nat.reduceLeDiff,Nat.reduceEqDiff,Nat.reduceBEq,reduceIte,reduceCtorEq,Int.reduceLE,Int.reduceLT,Int.reduceToNat,Int.reduceEq,Int.reduceNe])
  | ((first|apply zk0|apply zk1|apply zk2|apply zk3|apply zk4|apply zk5|apply zk6|apply zk7|apply zk8|apply zk9) <;> intro hc)
  |(refine callP0 rfl ?_)
  |(refine callD0 rfl ?_)
  |(refine cP (cloneB_f bl hb) ?_)
  |(refine cD (cloneB_f bl hb) ?_)
  |(refine cF (cloneB_f bl hb) ?_)
  |(refine cO (cloneB_f bl hb) ?_)
  |(refine cP (cloneE_f en he) ?_)
  |(refine cD (cloneE_f en he) ?_)
  |(refine cF (cloneE_f en he) ?_)
  |(refine cO (cloneE_f en he) ?_)
  | fail)
 refine ax_loopU (S := Nat) 32 [1,2,14] [1,2,6] (fun s => [(15,.f (.int .i64 s))]) (fun s => [(9,1,(rowF fEntry en).map AV.f)]) (fun s => s ≤ en.length) (fun s => en.length - s) (0) [] ?_ ?_ fun s hs => ?_
 ·exact Nat.zero_le _
 ·refine wk_i ?_ ?_ <;> simp only [zw,Nat.reduceEqDiff,Nat.reduceBEq,Nat.reduceLT,Nat.reduceLeDiff,reduceIte,reduceCtorEq]
 refine srun_sound 300 _ _ _ _ ?_
 rcases Nat.lt_or_ge s en.length with hlt | hge
 ·obtain ⟨x,hx⟩ := get_some hlt
  have h4 := inc64 hlt (by omega)
  have h2 := lt_t hlt
  have hxr := hR.out x (List.mem_of_getElem? hx)
  have hcell := row_cell (enc := fEntry) (sz := 3) (j := 1) (fun _ => rfl) hx (show _ = some (frStrs x.2.1) from rfl)
  have hin : (s * 3 + 1 + 1 ≤ (rowF fEntry en).length) = True := by
   have := row_in (enc := fEntry) (sz := 3) (l := en) (fun _ => rfl) hlt
   rw [eq_iff_iff,iff_true,List.length_map] at this
   rw [eq_iff_iff,iff_true];omega
  have hX := hide hx
  clear hx
  repeat' (first
   | (simp -implicitDefEqProofs only [*,frStrs,addFp_wr,zr,Nat.reduceAdd,Nat.reduceSub,Nat.reduceMul,Nat.reduceLT,Nat.reduceLeDiff,Nat.reduceEqDiff,Nat.reduceBEq,reduceIte,reduceCtorEq,Int.reduceLE,Int.reduceLT,Int.reduceToNat,Int.reduceEq,Int.reduceNe])
   | ((first|apply zk0|apply zk1|apply zk2|apply zk3|apply zk4|apply zk5|apply zk6|apply zk7|apply zk8|apply zk9) <;> intro hc)
   |(refine callP0 rfl ?_)
   |(refine callD0 rfl ?_)
   |(refine cP (cloneS_f x.2.1 hxr) ?_)
   |(refine cD (cloneS_f x.2.1 hxr) ?_)
   |(refine cF (cloneS_f x.2.1 hxr) ?_)
   |(refine cO (cloneS_f x.2.1 hxr) ?_)
   | fail)
  refine ⟨s + 1,hlt,by omega,?_⟩
  refine wk_i ?_ ?_ <;> simp only [zw,Nat.reduceEqDiff,Nat.reduceBEq,Nat.reduceLT,Nat.reduceLeDiff,reduceIte,reduceCtorEq]
  refine SlotsOk.set fun y hy => ?_
  rw [List.getElem?_map,hy] at hcell
  have e : y = frStrs x.2.1 := by
   have := Option.some.inj hcell
   exact AV.f.inj this
  subst e
  exact so_row0 (enc := encS) (l := x.2.1) (fun _ => rfl) rfl (by simp [cellsOf,upd_get]) rfl
 ·obtain rfl : s = en.length := by omega
  have h2 := lt_f hge
  repeat' (first
   | (simp -implicitDefEqProofs only [*,zr,Nat.reduceAdd,Nat.reduceSub,Nat.reduceMul,Nat.reduceLT,Nat.reduceLeDiff,Nat.reduceEqDiff,Nat.reduceBEq,reduceIte,reduceCtorEq,Int.reduceLE,Int.reduceLT,Int.reduceToNat,Int.reduceEq,Int.reduceNe])
   | ((first|apply zk0|apply zk1|apply zk2|apply zk3|apply zk4|apply zk5|apply zk6|apply zk7|apply zk8|apply zk9) <;> intro hc)
   |(refine callP0 rfl ?_)
   |(refine callD0 rfl ?_)
   | fail)
  exact ret_own5 rfl rfl (by rw [row_len (sz := 5) (fun _ => rfl)];exact Nat.le_refl _) (by rw [row_len (sz := 3) (fun _ => rfl)];exact Nat.le_refl _)
theorem drop_f (c : Cache) (k m : Nat) (cs ds : List FV) (hcs : cs = rowF fBlob c.2.2.1) (hk : k = c.2.2.1.length) (l : List ByteArray) (hb : c.2.2.1.length ≤ 1000000) (hl : l.length ≤ 1000000) (hm : m * 3 ≤ ds.length) (room lease : Int) :
  FRetP Tryd.prog 32 [.v (.int .i64 room),.v (.int .i64 lease),.own 5 k cs,.own 3 m ds] [] [.f (frStrs l)]
   [.v (.int .i64 room),.v (.int .i64 lease),.own 5 (keepL (fun b : Blob => hasS b.1 l) c.2.2.1).length (rowF fBlob (keepL (fun b : Blob => hasS b.1 l) c.2.2.1) ++ (List.replicate (c.2.2.1.length - (keepL (fun b : Blob => hasS b.1 l) c.2.2.1).length) [.str ⟨#[]⟩,.int .i64 0,.int .i64 0,.int .i64 0,.int .i64 0]).flatten),.own 3 m ds] [] := by
 subst hcs hk
 refine FCall.of_ax low_cache_drop ?_
 dsimp only [l_cache_drop,frStrs]
 refine srun_sound 300 _ _ _ _ ?_
 repeat' (first
  | (simp -implicitDefEqProofs only [*,zr,Nat.reduceAdd,Nat.reduceSub,Nat.reduceMul,Nat.reduceLT,Nat.reduceLeDiff,Nat.reduceEqDiff,Nat.reduceBEq,reduceIte,reduceCtorEq,Int.reduceLE,Int.reduceLT,Int.reduceToNat,Int.reduceEq,Int.reduceNe])
  | ((first|apply zk0|apply zk1|apply zk2|apply zk3|apply zk4|apply zk5|apply zk6|apply zk7|apply zk8|apply zk9) <;> intro hc)
  |(refine callP0 rfl ?_)
  |(refine callD0 rfl ?_)
  | fail)
 refine ax_loopU (S := Nat) 26 [0,4,8,9] [4,80000,81000,100001] (fun s => [(10,.f (.int .i64 s))]) (fun s => [(7,1,AObj.map (setL (l.take s)))]) (fun s => s ≤ l.length) (fun s => l.length - s) (0) [] ?_ ?_ fun s hs => ?_
 ·exact Nat.zero_le _
 ·refine wk_i ?_ ?_ <;> simp only [List.take_zero,zw,Nat.reduceEqDiff,Nat.reduceBEq,Nat.reduceLT,Nat.reduceLeDiff,reduceIte,reduceCtorEq]
  rfl
 refine srun_sound 300 _ _ _ _ ?_
 rcases Nat.lt_or_ge s l.length with hlt | hge
 ·obtain ⟨x,hx⟩ := get_some hlt
  have h4 := inc64 hlt (by omega)
  have h2 := lt_t hlt
  have hs2 : setL (l.take (s + 1)) = mSet x (.bool true) (setL (l.take s)) := by rw [List.take_add_one,hx,setL_snoc];rfl
  repeat' (first
   | (simp -implicitDefEqProofs only [*,List.getElem?_map,Option.map_some,zr,Nat.reduceAdd,Nat.reduceSub,Nat.reduceMul,Nat.reduceLT,Nat.reduceLeDiff,Nat.reduceEqDiff,Nat.reduceBEq,reduceIte,reduceCtorEq,Int.reduceLE,Int.reduceLT,Int.reduceToNat,Int.reduceEq,Int.reduceNe])
   | ((first|apply zk0|apply zk1|apply zk2|apply zk3|apply zk4|apply zk5|apply zk6|apply zk7|apply zk8|apply zk9) <;> intro hc)
   |(refine callP0 rfl ?_)
   |(refine callD0 rfl ?_)
   | fail)
  refine ⟨s + 1,hlt,by omega,?_⟩
  rw [hs2]
  refine wk_i ?_ ?_ <;> simp only [zw,Nat.reduceEqDiff,Nat.reduceBEq,Nat.reduceLT,Nat.reduceLeDiff,reduceIte,reduceCtorEq]
 ·obtain rfl : s = l.length := by omega
  have h2 := lt_f hge
  have h3 := List.take_length (l := l)
  repeat' (first
   | (simp -implicitDefEqProofs only [*,zr,Nat.reduceAdd,Nat.reduceSub,Nat.reduceMul,Nat.reduceLT,Nat.reduceLeDiff,Nat.reduceEqDiff,Nat.reduceBEq,reduceIte,reduceCtorEq,Int.reduceLE,Int.reduceLT,Int.reduceToNat,Int.reduceEq,Int.reduceNe])
   | ((first|apply zk0|apply zk1|apply zk2|apply zk3|apply zk4|apply zk5|apply zk6|apply zk7|apply zk8|apply zk9) <;> intro hc)
   |(refine callP0 rfl ?_)
   |(refine callD0 rfl ?_)
   | fail)
  refine ax_weakA [] (nw := []) (n := 26) (el := [(17,.ptr 100001 1 0),(21,.sl 80000 1 5 0 c.2.2.1.length),(22,.clo (.func 50) [.ptr 4 1 0])]) (hl := [(4,1,.cells [.f (.fm (setL l))]),(80000,1,.cells ((rowF fBlob c.2.2.1).map .f)),(81000,1,.cells (ds.map .f)),(100001,1,.cells [.f (.int .i64 room),.f (.int .i64 lease),.sl 80000 1 5 0 c.2.2.1.length,.sl 81000 1 3 0 m])]) rfl ?_ ?_
  ·refine wk_i ?_ ?_ <;> simp only [so_mf,mapOfH_some,so_ptf,so_cc,so_ff',cellsOf_some,List.drop_zero,List.take_succ_cons,List.take_zero,Nat.zero_add,Nat.le_refl,zw,Nat.reduceEqDiff,Nat.reduceBEq,Nat.reduceLT,Nat.reduceLeDiff,reduceIte,reduceCtorEq]
  refine ax_weakA [] (nw := []) (n := 26) (el := [(17,.ptr 100001 1 0),(21,.sl 80000 1 5 0 c.2.2.1.length),(22,.clo (.func 50) [.f (.fp [.fm (setL l)])])]) (hl := [(80000,1,.cells ((rowF fBlob c.2.2.1).map .f)),(81000,1,.cells (ds.map .f)),(100001,1,.cells [.f (.int .i64 room),.f (.int .i64 lease),.sl 80000 1 5 0 c.2.2.1.length,.sl 81000 1 3 0 m])]) rfl ?_ ?_
  ·refine wk_i ?_ ?_ <;> simp only [so_mf,mapOfH_some,so_ptf,so_cc,so_ff',cellsOf_some,List.drop_zero,List.take_succ_cons,List.take_zero,Nat.zero_add,Nat.le_refl,zw,Nat.reduceEqDiff,Nat.reduceBEq,Nat.reduceLT,Nat.reduceLeDiff,reduceIte,reduceCtorEq]
  refine callM rfl (delf_blob c.2.2.1 _ [.f (.fp [.fm (setL l)])] (fun b => hasS b.1 l) hb (fun x _ => dropC_f x l) rfl) rfl [.sl 80000 1 5 0 c.2.2.1.length] [.clo (.func 50) [.f (.fp [.fm (setL l)])]] rfl ⟨.inr ⟨_,_,rfl,rfl,by rw [row_len (sz := 5) (fun _ => rfl)];exact Nat.le_refl _⟩,rfl⟩ (by simp [idsS]) (LeL.refl _) rfl (by exact free_mk (by simp)) ?_
  repeat' (first
   | (simp -implicitDefEqProofs only [*,zr,Nat.reduceAdd,Nat.reduceSub,Nat.reduceMul,Nat.reduceLT,Nat.reduceLeDiff,Nat.reduceEqDiff,Nat.reduceBEq,reduceIte,reduceCtorEq,Int.reduceLE,Int.reduceLT,Int.reduceToNat,Int.reduceEq,Int.reduceNe])
   | ((first|apply zk0|apply zk1|apply zk2|apply zk3|apply zk4|apply zk5|apply zk6|apply zk7|apply zk8|apply zk9) <;> intro hc)
   |(refine callP0 rfl ?_)
   |(refine callD0 rfl ?_)
   | fail)
  exact ⟨[],[.f (.int .i64 room),.f (.int .i64 lease),.sl 23 1 5 0 (keepL (fun b : Blob => hasS b.1 l) c.2.2.1).length,.sl 81000 1 3 0 m],rfl,rfl,⟨rfl,rfl,.inr ⟨23,1,rfl,rfl,by rw [List.length_append,row_len (sz := 5) (fun _ => rfl)];exact Nat.le_add_right _ _⟩,.inr ⟨81000,1,rfl,rfl,hm⟩,rfl⟩,rfl,by simp [idsC,idsS],by simp [idsC,idsS]⟩
end Go.Proofs.YtanhelgblnmdcaaDoor
