/-
  What is wanted of contents: plain law; data. No statement of the seat is proved here; no conditions.
-/
import Derived.Test.YtanhelgblnmdcaaDoorPlC
namespace Go.Proofs.YtanhelgblnmdcaaDoor
open Go.RowKit Go.Shelf
set_option linter.unusedVariables false
set_option linter.unusedSimpArgs false
set_option maxRecDepth 100000

abbrev Sized := ByteArray × Int
def fSized (x : Sized) : List FV := [.str x.1,.int .i64 x.2]
def frSized (l : List Sized) : FV := .fr 2 (l.map fSized)
def szErr (l : List Sized) (i : Nat) : Int := match l[i]? with
 | none => 0
 | some x => if isDig x.1 = true then (if inRg x.2 0 2000000 = true then prevV l i (fun e => if leS x.1 e.1 = true then 8 else 0) else 1) else 3
theorem szErr_of {l : List Sized} {i : Nat} {x : Sized} (h : l[i]? = some x) : szErr l i = if isDig x.1 = true then (if inRg x.2 0 2000000 = true then prevV l i (fun e => if leS x.1 e.1 = true then 8 else 0) else 1) else 3 := by unfold szErr;rw [h]
def ckSz (l : List Sized) : Int := if (4000 : Int) < l.length then 2 else firstErr (szErr l) 0 l.length
def wantErr (l : List Sized) (have_ : List ByteArray) : Int := if ckSz l ≠ 0 then ckSz l else ckDigsM have_ 4000
def wantL (l : List Sized) (have_ : List ByteArray) : List Sized := l.filter fun x => !hasS x.1 have_
def sumW : List Sized → Int
 | [] => 0
 | x :: l => x.2 + sumW l
theorem hasS_digs {bl : List Blob} {d : ByteArray} : hasS d (digsB bl) = hasB bl d := by
 unfold hasS digsB hasB hasK
 rw [List.any_map];rfl
theorem want_missing {bl : List Blob} {l : List Sized} : (wantL l (digsB bl)).map (·.1) = missingOf bl (l.map (·.1)) := by
 unfold wantL missingOf
 rw [List.filter_map]
 congr 1
 apply List.filter_congr
 intro x _
 simp only [Function.comp,hasS_digs]
theorem sumW_snoc {l : List Sized} {x : Sized} : sumW (l ++ [x]) = sumW l + x.2 := by
 induction l with
 | nil => simp [sumW]
 | cons y l ih => simp only [List.cons_append,sumW,ih];omega
theorem sumW_range {l : List Sized} (h : ∀ x ∈ l,0 ≤ x.2 ∧ x.2 ≤ 2000000) : 0 ≤ sumW l ∧ sumW l ≤ 2000000 * l.length := by
 induction l with
 | nil => simp [sumW]
 | cons y l ih =>
  have h1 := h y (List.mem_cons_self ..)
  have h2 := ih fun x hx => h x (List.mem_cons_of_mem _ hx)
  simp only [sumW,List.length_cons,Int.natCast_add,Int.mul_add]
  omega
theorem ckSz_range {l : List Sized} (h : ckSz l = 0) : l.length ≤ 4000 ∧ ∀ x ∈ l,0 ≤ x.2 ∧ x.2 ≤ 2000000 := by
 unfold ckSz at h
 split at h
 ·cases h
 ·refine ⟨by omega,fun x hx => ?_⟩
  obtain ⟨i,hi⟩ := List.mem_iff_getElem?.1 hx
  have h1 := fe_zero h i (List.getElem?_eq_some_iff.1 hi).1
  rw [szErr_of hi] at h1
  by_cases h2 : isDig x.1 = true
  ·rw [if_pos h2] at h1
   by_cases h3 : inRg x.2 0 2000000 = true
   ·exact rg_iff.1 h3
   ·rw [if_neg h3] at h1;cases h1
  ·rw [if_neg h2] at h1;cases h1
end Go.Proofs.YtanhelgblnmdcaaDoor
