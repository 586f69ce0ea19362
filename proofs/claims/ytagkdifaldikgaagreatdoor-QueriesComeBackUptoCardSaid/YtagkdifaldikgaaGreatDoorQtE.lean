/-
  How many nodes a query has; how long its text is (plain Lean). No statement of the seat is proved here; no conditions.
-/
import Derived.Test.YtagkdifaldikgaaGreatDoorQtC
namespace Go.Proofs.YtagkdifaldikgaaGreatDoor
open Go.RowKit Go.Shelf
set_option linter.unusedVariables false
set_option linter.unusedSimpArgs false
set_option maxRecDepth 100000

mutual
def cnQ : QT → Nat
 | .mk _ _ _ ps => 1 + cnQs ps
def cnQs : List QT → Nat
 | [] => 0
 | p :: ps => cnQ p + cnQs ps
end
theorem fold_cn : ∀ {ps : List QT},(∀ p ∈ ps,cnQ p ≤ 140737488355328 → (sizeQ p).1 = cnQ p) → ∀ (a : Int × Int) (m : Nat),a.1 = m → m + cnQs ps ≤ 140737488355328 → ((sizesQ ps).foldl szStep a).1 = ((m + cnQs ps : Nat) : Int)
 | [],_,a,m,ha,_ => by rw [sizesQ,List.foldl_nil,cnQs,ha];rfl
 | p :: ps,hp,a,m,ha,hm => by
  rw [cnQs] at hm ⊢
  rw [sizesQ,List.foldl_cons]
  have h1 := hp p (by simp) (by omega)
  have := fold_cn (fun x hx => hp x (List.mem_cons_of_mem _ hx)) (szStep a (sizeQ p)) (m + cnQ p) (by
   show IntKind.i64.wrap (a.1 + (sizeQ p).1) = _
   rw [ha,h1,wrap64] <;> omega) (by omega)
  rw [this]
  congr 1;omega
theorem size_cn : ∀ q,cnQ q ≤ 140737488355328 → (sizeQ q).1 = cnQ q := by
 refine QT.ind fun k t n ps ih h => ?_
 rw [cnQ] at h ⊢
 rw [sizeQ]
 exact fold_cn ih (1,0) 1 rfl h
theorem path_len {p : ByteArray} (h : isPathV p = true) : p.size ≤ 200 := by
 unfold isPathV at h
 simp only [Bool.and_eq_true,Bool.not_eq_true',Bool.or_eq_false_iff,decide_eq_false_iff_not] at h
 omega
theorem lab_len {t : ByteArray} (h : isWholeV t = true) : t.data.toList.length ≤ 403 := by
 unfold isWholeV at h
 rw [Bool.and_eq_true,decide_eq_true_eq] at h
 obtain ⟨h1,h2⟩ := h
 unfold okLab at h1
 have h3 := ckLab_size h1
 rw [← h2]
 unfold wholeS
 have e1 : (labOf t).1.data.toList.length = (labOf t).1.size := by simp
 have e2 : (labOf t).2.data.toList.length = (labOf t).2.size := by simp
 simp only [ByteArray.data_append,Array.toList_append,List.length_append]
 rw [e1,e2]
 show 2 + _ + 1 + _ ≤ 403
 omega
theorem name_len {t : ByteArray} (h : isNameV t = true) : t.data.toList.length ≤ 40 := by
 have e : t.data.toList.length = t.size := by simp
 unfold isNameV at h
 cases hl : t.data.toList with
 | nil => simp
 | cons b l =>
  rw [hl] at h
  simp only [Bool.and_eq_true,Bool.not_eq_true',decide_eq_false_iff_not] at h
  rw [← hl]
  omega
theorem pat_len {t : ByteArray} (h : isPatV t = true) : t.data.toList.length ≤ 206 := by
 unfold isPatV at h
 rw [Bool.and_eq_true] at h
 obtain ⟨h1,h2⟩ := h
 have e := pre_data h1
 generalize cutPre t ⟨#[47,47]⟩ = r at *
 have hr : r.data.toList.length ≤ 204 := by
  rw [Bool.or_eq_true,Bool.or_eq_true,decide_eq_true_eq,decide_eq_true_eq,Bool.and_eq_true] at h2
  rcases h2 with h2 | h2 | h2
  ·rw [h2];decide
  ·rw [h2];decide
  ·have h3 := path_len h2.1
   have e3 : (trimSuf r ⟨#[47,46,46,46]⟩).data.toList.length = (trimSuf r ⟨#[47,46,46,46]⟩).size := by simp
   rcases suf_data (s := r) (p := ⟨#[47,46,46,46]⟩) with h4 | h4
   ·rw [← h4,e3];omega
   ·rw [h4,List.length_append,e3]
    show _ + 4 ≤ 204
    omega
 rw [e,List.length_append]
 show 2 + _ ≤ 206
 omega
theorem held_len {k : Int} {ps : List QT} {i : Nat} {p : QT} (hp : ps[i]? = some p) : (heldW k ps (txs ps) i).length ≤ (txQ p).length + 2 := by
 unfold heldW
 rw [txs_at hp]
 split
 ·simp
 ·omega
theorem tx_len : ∀ q,ckQ q = 0 → (txQ q).length ≤ 500 * cnQ q := by
 refine QT.ind fun k t n ps ih h => ?_
 rw [ckQ] at h
 split at h
 ·cases h
 rename_i hk
 split at h
 ·cases h
 rename_i hf
 split at h
 ·cases h
 rename_i hn
 have hp := ckQs_zero.1 h
 have hR : ∀ p ∈ ps,(txQ p).length ≤ 500 * cnQ p := fun p hm => ih p hm (hp p hm)
 have hf1 : fitsQ k t = true := by
  cases hh : fitsQ k t with
  | true => rfl
  | false => exact absurd (.inl hh) hf
 have hf2 : ps.length = partsN k := Decidable.byContradiction fun hh => hf (.inr hh)
 have hk2 : k = 1 ∨ k = 2 ∨ k = 3 ∨ k = 4 ∨ k = 5 ∨ k = 6 ∨ k = 7 ∨ k = 8 ∨ k = 9 ∨ k = 10 := by omega
 clear h hf hk ih hp
 have hsum : ∀ (k : Int) (c : UInt8) (a b : QT),(txQ a).length ≤ 500 * cnQ a → (txQ b).length ≤ 500 * cnQ b → (heldW k [a,b] (txs [a,b]) 0 ++ 32 :: c :: 32 :: heldW k [a,b] (txs [a,b]) 1).length ≤ 500 * (1 + (cnQ a + (cnQ b + 0))) := fun k c a b ha hb => by
  have h0 := held_len (k := k) (ps := [a,b]) (i := 0) (p := a) rfl
  have h1 := held_len (k := k) (ps := [a,b]) (i := 1) (p := b) rfl
  simp only [List.length_append,List.length_cons]
  omega
 rcases hk2 with rfl | rfl | rfl | rfl | rfl | rfl | rfl | rfl | rfl | rfl
 ·show (3 : Nat) ≤ 500 * (1 + cnQs ps)
  omega
 ·have := lab_len (t := t) (by simpa [fitsQ] using hf1)
  show t.data.toList.length ≤ 500 * (1 + cnQs ps)
  omega
 ·obtain ⟨a,rfl⟩ := rt_one hf2
  have ha := hR a (by simp)
  have hn1 : -1 ≤ n ∧ n ≤ 1000 := by simp [rngQ] at hn;omega
  have hi : (if 0 ≤ n then 44 :: 32 :: (itB n).data.toList else ([] : List UInt8)).length ≤ 11 := by
   split
   ·rename_i h0
    have := (num_word h0 hn1.2).2.2.1
    unfold numW at this
    simp only [Bool.and_eq_true,decide_eq_true_eq] at this
    simp only [List.length_cons]
    omega
   ·simp
  show (wNeeds ++ 40 :: (txQ a ++ ((if 0 ≤ n then 44 :: 32 :: (itB n).data.toList else []) ++ [41]))).length ≤ 500 * (1 + (cnQ a + 0))
  have : wNeeds.length = 5 := rfl
  simp only [List.length_append,List.length_cons,List.length_nil]
  omega
 ·obtain ⟨a,rfl⟩ := rt_one hf2
  have ha := hR a (by simp)
  have hn1 : -1 ≤ n ∧ n ≤ 1000 := by simp [rngQ] at hn;omega
  have hi : (if 0 ≤ n then 44 :: 32 :: (itB n).data.toList else ([] : List UInt8)).length ≤ 11 := by
   split
   ·rename_i h0
    have := (num_word h0 hn1.2).2.2.1
    unfold numW at this
    simp only [Bool.and_eq_true,decide_eq_true_eq] at this
    simp only [List.length_cons]
    omega
   ·simp
  show (wUsers ++ 40 :: (txQ a ++ ((if 0 ≤ n then 44 :: 32 :: (itB n).data.toList else []) ++ [41]))).length ≤ 500 * (1 + (cnQ a + 0))
  have : wUsers.length = 5 := rfl
  simp only [List.length_append,List.length_cons,List.length_nil]
  omega
 ·obtain ⟨a,b,rfl⟩ := rt_two hf2
  have ha := hR a (by simp)
  have hb := hR b (by simp)
  show (wBetw ++ 40 :: (txQ a ++ 44 :: 32 :: (txQ b ++ [41]))).length ≤ 500 * (1 + (cnQ a + (cnQ b + 0)))
  have : wBetw.length = 7 := rfl
  simp only [List.length_append,List.length_cons,List.length_nil]
  omega
 ·obtain ⟨a,rfl⟩ := rt_one hf2
  have ha := hR a (by simp)
  have ht := name_len (t := t) (by simpa [fitsQ] using hf1)
  show (wKind ++ 40 :: (t.data.toList ++ 44 :: 32 :: (txQ a ++ [41]))).length ≤ 500 * (1 + (cnQ a + 0))
  have : wKind.length = 4 := rfl
  simp only [List.length_append,List.length_cons,List.length_nil]
  omega
 ·obtain ⟨a,rfl⟩ := rt_one hf2
  have ha := hR a (by simp)
  have ht := pat_len (t := t) (by simpa [fitsQ] using hf1)
  show (wIn ++ 40 :: (t.data.toList ++ 44 :: 32 :: (txQ a ++ [41]))).length ≤ 500 * (1 + (cnQ a + 0))
  have : wIn.length = 2 := rfl
  simp only [List.length_append,List.length_cons,List.length_nil]
  omega
 ·obtain ⟨a,b,rfl⟩ := rt_two hf2
  exact hsum 8 43 a b (hR a (by simp)) (hR b (by simp))
 ·obtain ⟨a,b,rfl⟩ := rt_two hf2
  exact hsum 9 45 a b (hR a (by simp)) (hR b (by simp))
 ·obtain ⟨a,b,rfl⟩ := rt_two hf2
  exact hsum 10 38 a b (hR a (by simp)) (hR b (by simp))
end Go.Proofs.YtagkdifaldikgaaGreatDoor
namespace Go.Proofs.YtagkdifaldikgaaGreatDoor
open Go.RowKit Go.Shelf
set_option linter.unusedVariables false
set_option linter.unusedSimpArgs false
set_option maxRecDepth 100000

def ckTop (q : QT) : Int := if 2000 < (sizeQ q).1 ∨ 20 < (sizeQ q).2 then 2 else ckQ q
theorem CheckQuery_f (q : QT) (hb : QB q) : FRet Tryz.prog 8 [aQ q] [.c (.v (.int .i64 (ckTop q)))] := by
 have k1 := size_f q hb
 have k2 := checkQuery_f q hb
 unfold ckTop
 generalize sizeQ q = s at *
 generalize ckQ q = c at *
 obtain ⟨k,t,n,ps⟩ := q
 obtain ⟨s1,s2⟩ := s
 dsimp only at k1 ⊢
 refine FCall.of_ax low_graph_CheckQuery ?_
 dsimp only [l_graph_CheckQuery,aQ,encQ,List.map] at k1 k2 ⊢
 by_cases h1 : 2000 < s1
 ·rw [if_pos (.inl h1)]
  have d1 : decide (2000 < s1) = true := dcT h1
  have d1' : decide (s1 > 2000) = true := dcT h1
  replace h1 := hide h1
  refine srun_sound 300 _ _ _ _ ?_
  repeat' (first
   | (simp -implicitDefEqProofs only [*,zr,Nat.reduceAdd,Nat.reduceSub,Nat.reduceMul,Nat.reduceLT,Nat.reduceLeDiff,Nat.reduceEqDiff,Nat.reduceBEq,reduceIte,reduceCtorEq,Int.reduceLE,Int.reduceLT,Int.reduceToNat,Int.reduceEq,Int.reduceNe])
   | ((first|apply zk0|apply zk1|apply zk2|apply zk3|apply zk4|apply zk5|apply zk6|apply zk7|apply zk8|apply zk9) <;> intro hc)
   |(refine callP0 rfl ?_)
   |(refine callD0 rfl ?_)
   |(refine cP (k1) ?_)
   |(refine cD (k1) ?_)
   |(refine cF (k1) ?_)
   | fail)
  exact ret_v
 have d1 : decide (2000 < s1) = false := dcF h1
 have d1' : decide (s1 > 2000) = false := dcF h1
 by_cases h2 : 20 < s2
 ·rw [if_pos (.inr h2)]
  have d2 : decide (20 < s2) = true := dcT h2
  have d2' : decide (s2 > 20) = true := dcT h2
  replace h1 := hide h1
  replace h2 := hide h2
  refine srun_sound 300 _ _ _ _ ?_
  repeat' (first
   | (simp -implicitDefEqProofs only [*,zr,Nat.reduceAdd,Nat.reduceSub,Nat.reduceMul,Nat.reduceLT,Nat.reduceLeDiff,Nat.reduceEqDiff,Nat.reduceBEq,reduceIte,reduceCtorEq,Int.reduceLE,Int.reduceLT,Int.reduceToNat,Int.reduceEq,Int.reduceNe])
   | ((first|apply zk0|apply zk1|apply zk2|apply zk3|apply zk4|apply zk5|apply zk6|apply zk7|apply zk8|apply zk9) <;> intro hc)
   |(refine callP0 rfl ?_)
   |(refine callD0 rfl ?_)
   |(refine cP (k1) ?_)
   |(refine cD (k1) ?_)
   |(refine cF (k1) ?_)
   | fail)
  exact ret_v
 rw [if_neg (fun h => h.elim h1 h2)]
 have d2 : decide (20 < s2) = false := dcF h2
 have d2' : decide (s2 > 20) = false := dcF h2
 replace h1 := hide h1
 replace h2 := hide h2
 refine srun_sound 300 _ _ _ _ ?_
 repeat' (first
  | (simp -implicitDefEqProofs only [*,zr,Nat.reduceAdd,Nat.reduceSub,Nat.reduceMul,Nat.reduceLT,Nat.reduceLeDiff,Nat.reduceEqDiff,Nat.reduceBEq,reduceIte,reduceCtorEq,Int.reduceLE,Int.reduceLT,Int.reduceToNat,Int.reduceEq,Int.reduceNe])
  | ((first|apply zk0|apply zk1|apply zk2|apply zk3|apply zk4|apply zk5|apply zk6|apply zk7|apply zk8|apply zk9) <;> intro hc)
  |(refine callP0 rfl ?_)
  |(refine callD0 rfl ?_)
  |(refine cP (k1) ?_)
  |(refine cD (k1) ?_)
  |(refine cF (k1) ?_)
  |(refine cP (k2) ?_)
  |(refine cD (k2) ?_)
  |(refine cF (k2) ?_)
  | fail)
 exact ret_v
def qtV (q : QT) : ByteArray × Int := if ckTop q ≠ 0 then (⟨#[]⟩,ckTop q) else if 2000 < (txQ q).length then (⟨#[]⟩,2) else (txB q,0)
theorem QueryText_f (q : QT) (hb : QB q) (hc : cnQ q ≤ 140737488355328) : FRet Tryz.prog 4 [aQ q] [.c (.v (.str (qtV q).1)),.c (.v (.int .i64 (qtV q).2))] := by
 have kC := CheckQuery_f q hb
 unfold qtV
 by_cases h0 : ckTop q ≠ 0
 ·rw [if_pos h0]
  generalize ckTop q = c at *
  have d0 : decide (c = 0) = false := dcF h0
  replace h0 := hide h0
  obtain ⟨k,t,n,ps⟩ := q
  refine FCall.of_ax low_graph_QueryText ?_
  dsimp only [l_graph_QueryText,aQ,encQ,List.map] at kC ⊢
  refine srun_sound 300 _ _ _ _ ?_
  repeat' (first
   | (simp -implicitDefEqProofs only [*,zr,Nat.reduceAdd,Nat.reduceSub,Nat.reduceMul,Nat.reduceLT,Nat.reduceLeDiff,Nat.reduceEqDiff,Nat.reduceBEq,reduceIte,reduceCtorEq,Int.reduceLE,Int.reduceLT,Int.reduceToNat,Int.reduceEq,Int.reduceNe])
   | ((first|apply zk0|apply zk1|apply zk2|apply zk3|apply zk4|apply zk5|apply zk6|apply zk7|apply zk8|apply zk9) <;> intro hc)
   |(refine callP0 rfl ?_)
   |(refine callD0 rfl ?_)
   |(refine cP (kC) ?_)
   |(refine cD (kC) ?_)
   |(refine cF (kC) ?_)
   | fail)
  exact ret_vv
 have h1 : ckTop q = 0 := Decidable.not_not.1 h0
 rw [if_neg h0]
 rw [h1] at kC
 have h2 : ckQ q = 0 ∧ ¬ 2000 < (sizeQ q).1 := by
  unfold ckTop at h1
  split at h1
  ·cases h1
  ·rename_i h;exact ⟨h1,fun e => h (.inl e)⟩
 have h3 := tx_len q h2.1
 have h4 := size_cn q hc
 have kT := qtext_f q h2.1 hb (by have := h2.2;omega)
 have hsz := tx_size q
 have d0 : decide ((0 : Int) = 0) = true := rfl
 by_cases h5 : 2000 < (txQ q).length
 ·rw [if_pos h5]
  have d5 : decide ((2000 : Int) < ((txB q).size : Int)) = true := dcT (by omega)
  have d5' : decide (((txB q).size : Int) > 2000) = true := d5
  generalize txB q = T at *
  clear h0 h1 h2 h3 h4 h5 hsz hc
  obtain ⟨k,t,n,ps⟩ := q
  refine FCall.of_ax low_graph_QueryText ?_
  dsimp only [l_graph_QueryText,aQ,encQ,List.map] at kC kT ⊢
  refine srun_sound 300 _ _ _ _ ?_
  repeat' (first
   | (simp -implicitDefEqProofs only [*,zr,Nat.reduceAdd,Nat.reduceSub,Nat.reduceMul,Nat.reduceLT,Nat.reduceLeDiff,Nat.reduceEqDiff,Nat.reduceBEq,reduceIte,reduceCtorEq,Int.reduceLE,Int.reduceLT,Int.reduceToNat,Int.reduceEq,Int.reduceNe])
   | ((first|apply zk0|apply zk1|apply zk2|apply zk3|apply zk4|apply zk5|apply zk6|apply zk7|apply zk8|apply zk9) <;> intro hc)
   |(refine callP0 rfl ?_)
   |(refine callD0 rfl ?_)
   |(refine cP (kC) ?_)
   |(refine cD (kC) ?_)
   |(refine cF (kC) ?_)
   |(refine cP (kT) ?_)
   |(refine cD (kT) ?_)
   |(refine cF (kT) ?_)
   | fail)
  exact ret_vv
 ·rw [if_neg h5]
  have d5 : decide ((2000 : Int) < ((txB q).size : Int)) = false := dcF (by omega)
  have d5' : decide (((txB q).size : Int) > 2000) = false := d5
  generalize txB q = T at *
  clear h0 h1 h2 h3 h4 h5 hsz hc
  obtain ⟨k,t,n,ps⟩ := q
  refine FCall.of_ax low_graph_QueryText ?_
  dsimp only [l_graph_QueryText,aQ,encQ,List.map] at kC kT ⊢
  refine srun_sound 300 _ _ _ _ ?_
  repeat' (first
   | (simp -implicitDefEqProofs only [*,zr,Nat.reduceAdd,Nat.reduceSub,Nat.reduceMul,Nat.reduceLT,Nat.reduceLeDiff,Nat.reduceEqDiff,Nat.reduceBEq,reduceIte,reduceCtorEq,Int.reduceLE,Int.reduceLT,Int.reduceToNat,Int.reduceEq,Int.reduceNe])
   | ((first|apply zk0|apply zk1|apply zk2|apply zk3|apply zk4|apply zk5|apply zk6|apply zk7|apply zk8|apply zk9) <;> intro hc)
   |(refine callP0 rfl ?_)
   |(refine callD0 rfl ?_)
   |(refine cP (kC) ?_)
   |(refine cD (kC) ?_)
   |(refine cF (kC) ?_)
   |(refine cP (kT) ?_)
   |(refine cD (kT) ?_)
   |(refine cF (kT) ?_)
   | fail)
  exact ret_vv
end Go.Proofs.YtagkdifaldikgaaGreatDoor
