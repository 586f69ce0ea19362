/-
  slices.Delete and slices.Insert at entries and at contents. No statement of the seat is proved here; no conditions.
-/
import Derived.Test.YtanhelgblnmdcaaDoorCutP
import Derived.Test.YtanhelgblnmdcaaDoorShr
import Derived.Test.YtanhelgblnmdcaaDoorLowD
namespace Go.Proofs.YtanhelgblnmdcaaDoor
open Go.RowKit Go.Shelf
set_option linter.unusedVariables false
set_option linter.unusedSimpArgs false
set_option maxRecDepth 100000

theorem row_del {α : Type} {enc : α → List FV} {sz : Nat} (hs : ∀ x,(enc x).length = sz) (l : List α) {i j : Nat} (hij : i ≤ j) (hj : j ≤ l.length) :
  splice ((rowF enc l).map AV.f) (i * sz) ((((rowF enc l).map AV.f).drop (j * sz)).take ((l.length - j) * sz)) = (rowF enc (l.take i ++ l.drop j) ++ (rowF enc l).drop ((i + (l.length - j)) * sz)).map AV.f := by
 have h1 : (((rowF enc l).map AV.f).drop (j * sz)).take ((l.length - j) * sz) = (rowF enc (l.drop j)).map AV.f := by
  rw [← List.map_drop,row_drop hs,List.take_of_length_le (by rw [List.length_map,row_len hs,List.length_drop];exact Nat.le_refl _)]
 rw [h1,splice_at _ _ _ (by rw [List.length_map,List.length_map,row_len hs,row_len hs,List.length_drop,← Nat.add_mul];exact Nat.mul_le_mul_right _ (by omega)),← List.map_take,row_take hs,List.length_map,row_len hs,List.length_drop,← Nat.add_mul,← List.map_drop,← List.map_append,← List.map_append,row_app,List.append_assoc]
theorem row_clr {α : Type} {enc : α → List FV} {sz : Nat} (hs : ∀ x,(enc x).length = sz) (M : List α) (r z : List FV) (k : Nat) (hr : r.length = k * sz) (hz : z.length = sz) :
  splice ((rowF enc M ++ r).map AV.f) (M.length * sz) (zeros k z) = (rowF enc M ++ (List.replicate k z).flatten).map AV.f := by
 have hl : (zeros k z).length = k * sz := by rw [zeros,List.length_map,flatten_len (sz := sz) _ (fun y hy => by rw [List.eq_of_mem_replicate hy];exact hz),List.length_replicate]
 have h2 : ((rowF enc M).map AV.f).length = M.length * sz := by rw [List.length_map,row_len hs]
 have := splice_mid (zeros k z) ((rowF enc M).map AV.f) (r.map AV.f) [] (by rw [List.length_map,hr,hl])
 rw [List.append_nil,List.append_nil,h2] at this
 rw [List.map_append,this,List.map_append];rfl
theorem row_in1 {α : Type} {enc : α → List FV} {sz : Nat} (hs : ∀ x,(enc x).length = sz) (l : List α) (b : α) {i : Nat} (hi : i ≤ l.length) (Zs : List AV) (hz : sz ≤ Zs.length) :
  splice ((rowF enc (l.take i)).map AV.f ++ Zs) (i * sz) ((enc b).map AV.f) = (rowF enc (l.take i) ++ enc b).map AV.f ++ Zs.drop sz := by
 have hA : ((rowF enc (l.take i)).map AV.f).length = i * sz := by rw [List.length_map,row_len hs,List.length_take,Nat.min_eq_left hi]
 rw [splice_at _ _ _ (by rw [List.length_append,hA,List.length_map,hs];omega),List.length_map,hs,← hA,List.take_left,List.drop_length_add_append,List.map_append,List.append_assoc]
theorem row_in2 {α : Type} {enc : α → List FV} {sz : Nat} (hs : ∀ x,(enc x).length = sz) (l : List α) (b : α) {i : Nat} (hi : i ≤ l.length) (Zs : List AV) (hz : Zs.length = (l.length - i) * sz) :
  splice ((rowF enc (l.take i) ++ enc b).map AV.f ++ Zs) ((i + 1) * sz) ((((rowF enc l).map AV.f).drop (i * sz)).take ((l.length - i) * sz)) = (rowF enc (l.take i ++ b :: l.drop i)).map AV.f := by
 have hA : ((rowF enc (l.take i) ++ enc b).map AV.f).length = (i + 1) * sz := by rw [List.length_map,List.length_append,row_len hs,hs,List.length_take,Nat.min_eq_left hi,Nat.add_mul,Nat.one_mul]
 have hR : (((rowF enc l).map AV.f).drop (i * sz)).take ((l.length - i) * sz) = (rowF enc (l.drop i)).map AV.f := by
  rw [← List.map_drop,row_drop hs,List.take_of_length_le (by rw [List.length_map,row_len hs,List.length_drop];exact Nat.le_refl _)]
 have hl : ((rowF enc (l.drop i)).map AV.f).length = (l.length - i) * sz := by rw [List.length_map,row_len hs,List.length_drop]
 rw [hR]
 have := splice_mid ((rowF enc (l.drop i)).map AV.f) ((rowF enc (l.take i) ++ enc b).map AV.f) Zs [] (by rw [hz,hl])
 rw [List.append_nil,List.append_nil,hA] at this
 rw [this,← List.map_append,row_app,row_cons,List.append_assoc]
theorem row_up {α : Type} {enc : α → List FV} {sz : Nat} (hs : ∀ x,(enc x).length = sz) (l : List α) {i : Nat} (hi : i ≤ l.length) (Y : List AV) (hY : Y.length = sz) :
  splice ((rowF enc l).map AV.f ++ Y) ((i + 1) * sz) ((((rowF enc l).map AV.f ++ Y).drop (i * sz)).take ((l.length - i) * sz)) = (rowF enc (l.take i)).map AV.f ++ (((((rowF enc l).map AV.f ++ Y).drop (i * sz)).take sz) ++ (rowF enc (l.drop i)).map AV.f) := by
 have hL : ((rowF enc l).map AV.f).length = l.length * sz := by rw [List.length_map,row_len hs]
 have hle : i * sz ≤ l.length * sz := Nat.mul_le_mul_right _ hi
 have hle2 : (l.length - i) * sz = l.length * sz - i * sz := Nat.sub_mul _ _ _
 have hR : ((((rowF enc l).map AV.f ++ Y).drop (i * sz)).take ((l.length - i) * sz)) = (rowF enc (l.drop i)).map AV.f := by
  rw [List.drop_append_of_le_length (by omega),← List.map_drop,row_drop hs,List.take_append_of_le_length (by rw [List.length_map,row_len hs,List.length_drop];exact Nat.le_refl _),List.take_of_length_le (by rw [List.length_map,row_len hs,List.length_drop];exact Nat.le_refl _)]
 have hl : ((rowF enc (l.drop i)).map AV.f).length = (l.length - i) * sz := by rw [List.length_map,row_len hs,List.length_drop]
 have hT : ((rowF enc l).map AV.f ++ Y).take (i * sz) = (rowF enc (l.take i)).map AV.f := by
  rw [List.take_append_of_le_length (by omega),← List.map_take,row_take hs]
 have hT2 : ((rowF enc l).map AV.f ++ Y).take ((i + 1) * sz) = (rowF enc (l.take i)).map AV.f ++ (((rowF enc l).map AV.f ++ Y).drop (i * sz)).take sz := by
  rw [Nat.add_mul,Nat.one_mul,List.take_add,hT]
 have hD : ((rowF enc l).map AV.f ++ Y).drop ((i + 1) * sz + (l.length - i) * sz) = [] := List.drop_of_length_le (by rw [List.length_append,hL,hY,Nat.add_mul];omega)
 rw [hR,splice_at _ _ _ (by rw [hl,List.length_append,hL,hY,Nat.add_mul];omega),hT2,hl,hD,List.append_nil,List.append_assoc]
theorem row_in3 {α : Type} {enc : α → List FV} {sz : Nat} (hs : ∀ x,(enc x).length = sz) (l : List α) (b : α) {i : Nat} (hi : i ≤ l.length) (X : List AV) (hX : X.length = sz) :
  splice ((rowF enc (l.take i)).map AV.f ++ (X ++ (rowF enc (l.drop i)).map AV.f)) (i * sz) ((enc b).map AV.f) = (rowF enc (l.take i ++ b :: l.drop i)).map AV.f := by
 have hA : ((rowF enc (l.take i)).map AV.f).length = i * sz := by rw [List.length_map,row_len hs,List.length_take,Nat.min_eq_left hi]
 have := splice_mid ((enc b).map AV.f) ((rowF enc (l.take i)).map AV.f) X ((rowF enc (l.drop i)).map AV.f) (by rw [List.length_map,hs,hX])
 rw [hA] at this
 rw [this,← List.map_append,← List.map_append,row_app,row_cons]
theorem slOf_ifz {p : Prop} [Decidable p] {id ver sz off n c : Nat} (h : ¬ p → n = 0) : SlOf (if p then .slc id ver sz off n c else .sl id ver sz off 0) id ver sz off n := by
 split
 ·exact .inr ⟨_,rfl⟩
 ·rename_i hp;rw [h hp];exact .inl rfl
theorem delete_f (en : List Entry) (i j : Nat) (hij : i < j) (hj : j ≤ en.length) (hn : en.length ≤ 1000000) :
  FRetM Tryd.prog 47 [.c (.own 3 en.length (rowF fEntry en)),.c (.v (.int .i64 i)),.c (.v (.int .i64 j))] []
   [.c (.own 3 (i + (en.length - j)) (rowF fEntry (en.take i ++ en.drop j) ++ zE (j - i)))] := by
 refine FCall.of_ax low_slices_Delete_api_Entry_api_Entry ?_
 dsimp only [l_slices_Delete_api_Entry_api_Entry]
 have d0 : decide ((i : Int) = (j : Int)) = false := dcF (by omega)
 refine srun_sound 11 _ _ _ _ ?_
 simp -implicitDefEqProofs only [zr,Nat.reduceAdd,Nat.reduceSub,Nat.reduceMul,Nat.reduceLT,Nat.reduceLeDiff,Nat.reduceEqDiff,Nat.reduceBEq,reduceIte,reduceCtorEq,Int.reduceLE,Int.reduceLT,Int.reduceToNat,Int.reduceEq,Int.reduceNe]
 refine ax_slice3 (.inl rfl) rfl rfl rfl (Nat.le_of_lt hij) hj (Nat.le_refl _) ?_
 refine srun_sound 16 _ _ _ _ ?_
 simp -implicitDefEqProofs only [d0,zr,Nat.reduceAdd,Nat.reduceSub,Nat.reduceMul,Nat.reduceLT,Nat.reduceLeDiff,Nat.reduceEqDiff,Nat.reduceBEq,reduceIte,reduceCtorEq,Int.reduceLE,Int.reduceLT,Int.reduceToNat,Int.reduceEq,Int.reduceNe]
 refine ax_slc trivial 0 rfl (by omega) rfl fun c hc1 hc2 => ?_
 refine srun_sound 4 _ _ _ _ ?_
 simp -implicitDefEqProofs only [zr,Nat.reduceAdd,Nat.reduceSub,Nat.reduceMul,Nat.reduceLT,Nat.reduceLeDiff,Nat.reduceEqDiff,Nat.reduceBEq,reduceIte,reduceCtorEq,Int.reduceLE,Int.reduceLT,Int.reduceToNat,Int.reduceEq,Int.reduceNe]
 refine ax_dslC 0 i rfl (Nat.zero_le _) (by omega) rfl ⟨_,rfl⟩ ?_
 rw [if_pos (show 0 < c by omega)]
 refine srun_sound 2 _ _ _ _ ?_
 simp -implicitDefEqProofs only [zr,Nat.reduceAdd,Nat.reduceSub,Nat.reduceMul,Nat.reduceLT,Nat.reduceLeDiff,Nat.reduceEqDiff,Nat.reduceBEq,reduceIte,reduceCtorEq,Int.reduceLE,Int.reduceLT,Int.reduceToNat,Int.reduceEq,Int.reduceNe]
 refine ax_dslC j en.length rfl hj hc1 ⟨_,rfl⟩ rfl ?_
 simp only [Nat.zero_add,Nat.sub_zero]
 refine ax_dappC (id := 80000) (ver := 1) (off := 0) (n := i) (c := c) (off2 := j) (m := en.length - j) rfl ?_ rfl (by omega) ?_ ?_ ?_
 ·show SlOf (if j < c then AV.slc 80000 1 3 j (en.length - j) (c - j) else AV.sl 80000 1 3 j 0) _ _ _ _ _
  exact slOf_ifz (fun h => by omega)
 ·rw [List.length_map,row_len (sz := 3) (fun _ => rfl)]
  exact Nat.mul_le_mul_right _ (by omega)
 ·rw [List.length_map,row_len (sz := 3) (fun _ => rfl)]
  exact Nat.mul_le_mul_right _ (by omega)
 rw [Nat.zero_add,row_del (sz := 3) (fun _ => rfl) en (Nat.le_of_lt hij) hj]
 obtain ⟨M,hM⟩ : ∃ M,en.take i ++ en.drop j = M := ⟨_,rfl⟩
 obtain ⟨r,hr⟩ : ∃ r,(rowF fEntry en).drop ((i + (en.length - j)) * 3) = r := ⟨_,rfl⟩
 have hml : i + (en.length - j) = M.length := by rw [← hM,List.length_append,List.length_take,List.length_drop];omega
 have hrl : r.length = (j - i) * 3 := by rw [← hr,List.length_drop,row_len (sz := 3) (fun _ => rfl),← Nat.sub_mul];congr 1;omega
 rw [hM,hr,hml]
 replace hM := hide hM
 replace hr := hide hr
 refine srun_sound 6 _ _ _ _ ?_
 simp -implicitDefEqProofs only [zr,Nat.reduceAdd,Nat.reduceSub,Nat.reduceMul,Nat.reduceLT,Nat.reduceLeDiff,Nat.reduceEqDiff,Nat.reduceBEq,reduceIte,reduceCtorEq,Int.reduceLE,Int.reduceLT,Int.reduceToNat,Int.reduceEq,Int.reduceNe]
 refine ax_sl trivial 28 rfl ?_
 refine srun_sound 2 _ _ _ _ ?_
 simp -implicitDefEqProofs only [zr,Nat.reduceAdd,Nat.reduceSub,Nat.reduceMul,Nat.reduceLT,Nat.reduceLeDiff,Nat.reduceEqDiff,Nat.reduceBEq,reduceIte,reduceCtorEq,Int.reduceLE,Int.reduceLT,Int.reduceToNat,Int.reduceEq,Int.reduceNe]
 have hle : M.length < en.length := by omega
 refine ax_slC M.length en.length rfl (Nat.le_of_lt hle) hc1 ⟨_,rfl⟩ ⟨_,rfl⟩ ?_
 rw [if_pos (show M.length < c by omega)]
 simp only [Nat.zero_add]
 refine ax_sl trivial 31 rfl ?_
 refine ax_sl trivial 0 rfl ?_
 have e3 : en.length - M.length = j - i := by omega
 have e4 : ((M.length + (j - i)) * 3 ≤ (rowF fEntry M ++ r).length) = True := by rw [eq_iff_iff,iff_true,List.length_append,row_len (sz := 3) (fun _ => rfl),hrl];omega
 have e5 := row_clr (enc := fEntry) (sz := 3) (fun _ => rfl) M r [FV.str ⟨#[]⟩,.nil,.int .i64 0] (j - i) hrl rfl
 rw [e3]
 refine srun_sound 300 _ _ _ _ ?_
 simp -implicitDefEqProofs only [e4,e5,zr,Nat.reduceAdd,Nat.reduceSub,Nat.reduceMul,Nat.reduceLT,Nat.reduceLeDiff,Nat.reduceEqDiff,Nat.reduceBEq,reduceIte,reduceCtorEq,Int.reduceLE,Int.reduceLT,Int.reduceToNat,Int.reduceEq,Int.reduceNe]
 exact ⟨[.sl 80000 1 3 0 M.length],rfl,⟨.inr ⟨80000,1,rfl,rfl,by rw [List.length_append,row_len (sz := 3) (fun _ => rfl)];exact Nat.le_add_right _ _⟩,rfl⟩,by simp [idsS]⟩

def OvOk (P : Program) (fid : FuncId) : Prop := ∃ fn tS tR e sz,P.funcs[fid]? = some fn ∧ (fn.name == "runtime.NumGoroutine") = false ∧ fn.body.isNone = true ∧ Extern.findNext fn = none ∧ Extern.find fn = some (Extern.SlicesOverlaps.overlaps #[tS,tS] #[tR]) ∧ P.underlying tS = some (.slice e) ∧ sizeOf? P e = some sz
set_option maxHeartbeats 1000000
theorem ovB : OvOk Tryd.prog 59 :=
 ⟨(Tryd.prog.funcs[59]?).getD default,22,4,29,5,by kernel_rfl,by kernel_rfl,by kernel_rfl,by kernel_rfl,by kernel_rfl,by kernel_rfl,by kernel_rfl⟩
theorem insertB_f (bl : List Blob) (i : Nat) (b : Blob) (hi : i ≤ bl.length) (hn : bl.length ≤ 1000000) :
  FRetM Tryd.prog 45 [.c (.own 5 bl.length (rowF fBlob bl)),.c (.v (.int .i64 i)),.c (.own 5 1 (fBlob b))] []
   [.c (.own 5 (bl.length + 1) (rowF fBlob (bl.take i ++ b :: bl.drop i)))] := by
 refine FCall.of_ax low_slices_Insert_api_Blob_api_Blob ?_
 dsimp only [l_slices_Insert_api_Blob_api_Blob]
 have h48 : ((bl.length + 1) * 48 ≤ 140737488355328) = True := by rw [eq_iff_iff,iff_true];omega
 have hrl : (rowF fBlob bl).length = bl.length * 5 := row_len (sz := 5) (fun _ => rfl)
 rcases Nat.eq_or_lt_of_le hi with rfl | hlt
 ·have d0 : decide ((bl.length : Int) = (bl.length : Int)) = true := dcT rfl
  have g1 : ((bl.length : Int) ≤ (bl.length : Int)) = True := by rw [eq_iff_iff,iff_true];exact Int.le_refl _
  have d1 : decide (((1 : Nat) : Int) = 0) = false := by decide
  refine srun_sound 300 _ _ _ _ ?_
  simp -implicitDefEqProofs only [d0,d1,g1,h48,hrl,fBlob,zr,Nat.reduceAdd,Nat.reduceSub,Nat.reduceMul,Nat.reduceLT,Nat.reduceLeDiff,Nat.reduceEqDiff,Nat.reduceBEq,reduceIte,reduceCtorEq,Int.reduceLE,Int.reduceLT,Int.reduceToNat,Int.reduceEq,Int.reduceNe]
  have e1 : rowF fBlob (bl.take bl.length ++ b :: bl.drop bl.length) = rowF fBlob bl ++ fBlob b := by rw [List.take_length,List.drop_length];exact row_snoc
  rw [e1]
  exact ⟨[.sl 80000 2 5 0 (bl.length + 1)],rfl,⟨.inr ⟨80000,2,rfl,by rw [List.map_append];rfl,by rw [List.length_append,hrl];simp [fBlob];omega⟩,rfl⟩,by simp [idsS]⟩
 ·have d0 : decide ((i : Int) = (bl.length : Int)) = false := dcF (by omega)
  have g1 : ((i : Int) ≤ (bl.length : Int)) = True := by rw [eq_iff_iff,iff_true];omega
  have d1 : decide (((1 : Nat) : Int) = 0) = false := by decide
  have g2 : ((bl.length : Int) ≤ (bl.length : Int)) = True := by rw [eq_iff_iff,iff_true];omega
  refine srun_sound 37 _ _ _ _ ?_
  simp -implicitDefEqProofs only [d0,d1,g1,g2,zr,Nat.reduceAdd,Nat.reduceSub,Nat.reduceMul,Nat.reduceLT,Nat.reduceLeDiff,Nat.reduceEqDiff,Nat.reduceBEq,reduceIte,reduceCtorEq,Int.reduceLE,Int.reduceLT,Int.reduceToNat,Int.reduceEq,Int.reduceNe]
  refine ax_slc trivial 0 rfl (by omega) rfl fun c hc1 hc2 => ?_
  have hw : IntKind.i64.wrap ((bl.length : Int) + ((1 : Nat) : Int)) = ((bl.length + 1 : Nat) : Int) := by rw [wrap64] <;> omega
  refine srun_sound 300 _ _ _ _ ?_
  simp -implicitDefEqProofs only [hw,zr,Nat.reduceAdd,Nat.reduceSub,Nat.reduceMul,Nat.reduceLT,Nat.reduceLeDiff,Nat.reduceEqDiff,Nat.reduceBEq,reduceIte,reduceCtorEq,Int.reduceLE,Int.reduceLT,Int.reduceToNat,Int.reduceEq,Int.reduceNe]
  refine ax_capC rfl rfl ?_
  rcases Nat.lt_or_ge c (bl.length + 1) with hgc | hgc
  ·have dc : decide (c < bl.length + 1) = true := decide_eq_true hgc
   have hw2 : IntKind.i64.wrap (((bl.length + 1 : Nat) : Int) - (i : Int)) = ((bl.length + 1 - i : Nat) : Int) := by rw [wrap64] <;> omega
   have hw3 : IntKind.i64.wrap ((i : Int) + ((1 : Nat) : Int)) = ((i + 1 : Nat) : Int) := by rw [wrap64] <;> omega
   have e0 : i + (bl.length + 1 - i) = bl.length + 1 := by omega
   refine srun_sound 7 _ _ _ _ ?_
   simp -implicitDefEqProofs only [dc,zr,Nat.reduceAdd,Nat.reduceSub,Nat.reduceMul,Nat.reduceLT,Nat.reduceLeDiff,Nat.reduceEqDiff,Nat.reduceBEq,reduceIte,reduceCtorEq,Int.reduceLE,Int.reduceLT,Int.reduceToNat,Int.reduceEq,Int.reduceNe]
   refine ax_slC 0 i rfl (Nat.zero_le _) (by omega) rfl ⟨_,rfl⟩ ?_
   rw [if_pos (show 0 < c by omega)]
   simp only [Nat.zero_add,Nat.sub_zero]
   refine srun_sound 5 _ _ _ _ ?_
   simp -implicitDefEqProofs only [hw,hw2,zr,Nat.reduceAdd,Nat.reduceSub,Nat.reduceMul,Nat.reduceLT,Nat.reduceLeDiff,Nat.reduceEqDiff,Nat.reduceBEq,reduceIte,reduceCtorEq,Int.reduceLE,Int.reduceLT,Int.reduceToNat,Int.reduceEq,Int.reduceNe]
   refine ax_appN (n := i) (m := bl.length + 1 - i) 40 0 rfl rfl rfl (by omega) (by omega) (by rw [List.length_map,hrl];omega) (by omega) rfl ?_
   rw [e0]
   refine ax_sl trivial 0 rfl ?_
   simp only [Nat.zero_mul,List.drop_zero]
   have g3 : ((i : Int) ≤ ((bl.length + 1 : Nat) : Int)) = True := by rw [eq_iff_iff,iff_true];omega
   have g4 : (((bl.length + 1 : Nat) : Int) ≤ ((bl.length + 1 : Nat) : Int)) = True := by rw [eq_iff_iff,iff_true];omega
   have g5 : (((i + 1 : Nat) : Int) ≤ ((bl.length + 1 : Nat) : Int)) = True := by rw [eq_iff_iff,iff_true];omega
   have m1 : min 1 (bl.length + 1 - i) = 1 := by omega
   have m2 : min (bl.length - i) (bl.length + 1 - (i + 1)) = bl.length - i := by omega
   have hzl : (zeros (bl.length + 1 - i) [FV.str ⟨#[]⟩,FV.int .i64 0,FV.int .i64 0,FV.int .i64 0,FV.int .i64 0]).length = (bl.length + 1 - i) * 5 := by
    rw [zeros,List.length_map,flatten_len (sz := 5) _ (fun y hy => by rw [List.eq_of_mem_replicate hy];rfl),List.length_replicate]
   obtain ⟨Zs,hZ⟩ : ∃ Zs,zeros (bl.length + 1 - i) [FV.str ⟨#[]⟩,FV.int .i64 0,FV.int .i64 0,FV.int .i64 0,FV.int .i64 0] = Zs := ⟨_,rfl⟩
   rw [hZ] at hzl ⊢
   rw [← List.map_take,row_take (sz := 5) (fun _ => rfl)]
   have hAl : (rowF fBlob (bl.take i)).length = i * 5 := by rw [row_len (sz := 5) (fun _ => rfl),List.length_take];congr 1;omega
   have e1 : splice ((rowF fBlob (bl.take i)).map AV.f ++ Zs) (i * 5) ((fBlob b).map AV.f) = (rowF fBlob (bl.take i) ++ fBlob b).map AV.f ++ Zs.drop 5 := row_in1 (sz := 5) (fun _ => rfl) bl b hi Zs (by omega)
   have e2 : splice ((rowF fBlob (bl.take i) ++ fBlob b).map AV.f ++ Zs.drop 5) ((i + 1) * 5) ((((rowF fBlob bl).map AV.f).drop (i * 5)).take ((bl.length - i) * 5)) = (rowF fBlob (bl.take i ++ b :: bl.drop i)).map AV.f := row_in2 (sz := 5) (fun _ => rfl) bl b hi _ (by rw [List.length_drop,hzl];omega)
   have c1 : ((i + 1) * 5 ≤ ((rowF fBlob (bl.take i)).map AV.f ++ Zs).length) = True := by
    rw [eq_iff_iff,iff_true,List.length_append,List.length_map,hAl,hzl];omega
   have c2 : ((i + 1 + (bl.length - i)) * 5 ≤ ((rowF fBlob (bl.take i) ++ fBlob b).map AV.f ++ Zs.drop 5).length) = True := by
    rw [eq_iff_iff,iff_true,List.length_append,List.length_map,List.length_append,hAl,List.length_drop,hzl];simp [fBlob];omega
   have c3 : ((i + (bl.length - i)) * 5 ≤ bl.length * 5) = True := by rw [eq_iff_iff,iff_true];omega
   have c4 : ((fBlob b).map AV.f).take 5 = (fBlob b).map AV.f := rfl
   have c5 : (fBlob b).length = 5 := rfl
   refine srun_sound 300 _ _ _ _ ?_
   simp -implicitDefEqProofs only [hw3,g1,g2,g3,g4,g5,m1,m2,e1,e2,c1,c2,c3,c4,c5,hrl,Nat.one_mul,List.drop_zero,List.length_map,zr,Nat.reduceAdd,Nat.reduceSub,Nat.reduceMul,Nat.reduceLT,Nat.reduceLeDiff,Nat.reduceEqDiff,Nat.reduceBEq,reduceIte,reduceCtorEq,Int.reduceLE,Int.reduceLT,Int.reduceToNat,Int.reduceEq,Int.reduceNe]
   have hfl : (rowF fBlob (bl.take i ++ b :: bl.drop i)).length = (bl.length + 1) * 5 := by rw [row_len (sz := 5) (fun _ => rfl)];simp;omega
   exact ⟨[.sl 40 1 5 0 (bl.length + 1)],rfl,⟨.inr ⟨40,1,rfl,rfl,by rw [hfl];exact Nat.le_refl _⟩,rfl⟩,by simp [idsS]⟩
  ·have dc : decide (c < bl.length + 1) = false := decide_eq_false (by omega)
   refine srun_sound 10 _ _ _ _ ?_
   simp -implicitDefEqProofs only [dc,hw,zr,Nat.reduceAdd,Nat.reduceSub,Nat.reduceMul,Nat.reduceLT,Nat.reduceLeDiff,Nat.reduceEqDiff,Nat.reduceBEq,reduceIte,reduceCtorEq,Int.reduceLE,Int.reduceLT,Int.reduceToNat,Int.reduceEq,Int.reduceNe]
   refine ax_slC 0 (bl.length + 1) rfl (Nat.zero_le _) hgc rfl ⟨_,rfl⟩ ?_
   rw [if_pos (show 0 < c by omega)]
   simp only [Nat.zero_add,Nat.sub_zero]
   refine ax_wide trivial 60 ((bl.length + 1) * 5) rfl rfl (by omega) ?_
   refine ax_sl trivial 60 rfl ?_
   rw [List.length_map,hrl,show (bl.length + 1) * 5 - bl.length * 5 = 5 by omega]
   obtain ⟨Y,hY⟩ : ∃ Y,List.replicate 5 AV.any = Y := ⟨_,rfl⟩
   have hYl : Y.length = 5 := by rw [← hY];rfl
   rw [hY]
   have hw3 : IntKind.i64.wrap ((i : Int) + ((1 : Nat) : Int)) = ((i + 1 : Nat) : Int) := by rw [wrap64] <;> omega
   have g3 : ((i : Int) ≤ ((bl.length + 1 : Nat) : Int)) = True := by rw [eq_iff_iff,iff_true];omega
   have g4 : (((bl.length + 1 : Nat) : Int) ≤ ((bl.length + 1 : Nat) : Int)) = True := by rw [eq_iff_iff,iff_true];omega
   have g5 : (((i + 1 : Nat) : Int) ≤ ((bl.length + 1 : Nat) : Int)) = True := by rw [eq_iff_iff,iff_true];omega
   refine srun_sound 300 _ _ _ _ ?_
   simp -implicitDefEqProofs only [hw3,g1,g2,g3,g4,g5,zr,Nat.reduceAdd,Nat.reduceSub,Nat.reduceMul,Nat.reduceLT,Nat.reduceLeDiff,Nat.reduceEqDiff,Nat.reduceBEq,reduceIte,reduceCtorEq,Int.reduceLE,Int.reduceLT,Int.reduceToNat,Int.reduceEq,Int.reduceNe]
   obtain ⟨_,_,_,_,_,k1,k2,k3,k4,k5,k6,k7⟩ := ovB
   refine ax_apart k1 k2 k3 k4 k5 k6 k7 (.inl rfl) (.inl rfl) (by decide) (by omega) (by omega) (by omega) ?_
   obtain ⟨X,hX⟩ : ∃ X,((((rowF fBlob bl).map AV.f ++ Y).drop (i * 5)).take 5) = X := ⟨_,rfl⟩
   have hXl : X.length = 5 := by rw [← hX,List.length_take,List.length_drop,List.length_append,List.length_map,hrl,hYl];omega
   have e1 := row_up (enc := fBlob) (sz := 5) (fun _ => rfl) bl hi Y hYl
   rw [hX] at e1
   have e2 := row_in3 (enc := fBlob) (sz := 5) (fun _ => rfl) bl b hi X hXl
   have hAl : (rowF fBlob (bl.take i)).length = i * 5 := by rw [row_len (sz := 5) (fun _ => rfl),List.length_take];congr 1;omega
   have hDl : (rowF fBlob (bl.drop i)).length = (bl.length - i) * 5 := by rw [row_len (sz := 5) (fun _ => rfl),List.length_drop]
   have m1 : min 1 (bl.length + 1 - i) = 1 := by omega
   have m2 : min (bl.length + 1 - i) (bl.length + 1 - (i + 1)) = bl.length - i := by omega
   have c1 : ((i + 1 + (bl.length - i)) * 5 ≤ ((rowF fBlob bl).map AV.f ++ Y).length) = True := by
    rw [eq_iff_iff,iff_true,List.length_append,List.length_map,hrl,hYl];omega
   have c2 : ((i + (bl.length - i)) * 5 ≤ ((rowF fBlob bl).map AV.f ++ Y).length) = True := by
    rw [eq_iff_iff,iff_true,List.length_append,List.length_map,hrl,hYl];omega
   have c3 : ((i + 1) * 5 ≤ ((rowF fBlob (bl.take i)).map AV.f ++ (X ++ (rowF fBlob (bl.drop i)).map AV.f)).length) = True := by
    rw [eq_iff_iff,iff_true,List.length_append,List.length_append,List.length_map,List.length_map,hAl,hDl,hXl];omega
   have c4 : ((fBlob b).map AV.f).take 5 = (fBlob b).map AV.f := rfl
   have c5 : (fBlob b).length = 5 := rfl
   refine srun_sound 300 _ _ _ _ ?_
   simp -implicitDefEqProofs only [hw3,g1,g2,g3,g4,g5,m1,m2,e1,e2,c1,c2,c3,c4,c5,Nat.one_mul,List.drop_zero,List.length_map,zr,Nat.reduceAdd,Nat.reduceSub,Nat.reduceMul,Nat.reduceLT,Nat.reduceLeDiff,Nat.reduceEqDiff,Nat.reduceBEq,reduceIte,reduceCtorEq,Int.reduceLE,Int.reduceLT,Int.reduceToNat,Int.reduceEq,Int.reduceNe]
   have hfl : (rowF fBlob (bl.take i ++ b :: bl.drop i)).length = (bl.length + 1) * 5 := by rw [row_len (sz := 5) (fun _ => rfl)];simp;omega
   exact ⟨[.sl 80000 1 5 0 (bl.length + 1)],rfl,⟨.inr ⟨80000,1,rfl,rfl,by rw [hfl];exact Nat.le_refl _⟩,rfl⟩,by simp [idsS]⟩
theorem ovE : OvOk Tryd.prog 63 :=
 ⟨(Tryd.prog.funcs[63]?).getD default,23,4,57,3,by kernel_rfl,by kernel_rfl,by kernel_rfl,by kernel_rfl,by kernel_rfl,by kernel_rfl,by kernel_rfl⟩
theorem insertE_f (bl : List Entry) (i : Nat) (b : Entry) (hi : i ≤ bl.length) (hn : bl.length ≤ 1000000) :
  FRetM Tryd.prog 48 [.c (.own 3 bl.length (rowF fEntry bl)),.c (.v (.int .i64 i)),.c (.own 3 1 (fEntry b))] []
   [.c (.own 3 (bl.length + 1) (rowF fEntry (bl.take i ++ b :: bl.drop i)))] := by
 refine FCall.of_ax low_slices_Insert_api_Entry_api_Entry ?_
 dsimp only [l_slices_Insert_api_Entry_api_Entry]
 have h48 : ((bl.length + 1) * 48 ≤ 140737488355328) = True := by rw [eq_iff_iff,iff_true];omega
 have hrl : (rowF fEntry bl).length = bl.length * 3 := row_len (sz := 3) (fun _ => rfl)
 rcases Nat.eq_or_lt_of_le hi with rfl | hlt
 ·have d0 : decide ((bl.length : Int) = (bl.length : Int)) = true := dcT rfl
  have g1 : ((bl.length : Int) ≤ (bl.length : Int)) = True := by rw [eq_iff_iff,iff_true];exact Int.le_refl _
  have d1 : decide (((1 : Nat) : Int) = 0) = false := by decide
  refine srun_sound 300 _ _ _ _ ?_
  simp -implicitDefEqProofs only [d0,d1,g1,h48,hrl,fEntry,zr,Nat.reduceAdd,Nat.reduceSub,Nat.reduceMul,Nat.reduceLT,Nat.reduceLeDiff,Nat.reduceEqDiff,Nat.reduceBEq,reduceIte,reduceCtorEq,Int.reduceLE,Int.reduceLT,Int.reduceToNat,Int.reduceEq,Int.reduceNe]
  have e1 : rowF fEntry (bl.take bl.length ++ b :: bl.drop bl.length) = rowF fEntry bl ++ fEntry b := by rw [List.take_length,List.drop_length];exact row_snoc
  rw [e1]
  exact ⟨[.sl 80000 2 3 0 (bl.length + 1)],rfl,⟨.inr ⟨80000,2,rfl,by rw [List.map_append];rfl,by rw [List.length_append,hrl];simp [fEntry];omega⟩,rfl⟩,by simp [idsS]⟩
 ·have d0 : decide ((i : Int) = (bl.length : Int)) = false := dcF (by omega)
  have g1 : ((i : Int) ≤ (bl.length : Int)) = True := by rw [eq_iff_iff,iff_true];omega
  have d1 : decide (((1 : Nat) : Int) = 0) = false := by decide
  have g2 : ((bl.length : Int) ≤ (bl.length : Int)) = True := by rw [eq_iff_iff,iff_true];omega
  refine srun_sound 37 _ _ _ _ ?_
  simp -implicitDefEqProofs only [d0,d1,g1,g2,zr,Nat.reduceAdd,Nat.reduceSub,Nat.reduceMul,Nat.reduceLT,Nat.reduceLeDiff,Nat.reduceEqDiff,Nat.reduceBEq,reduceIte,reduceCtorEq,Int.reduceLE,Int.reduceLT,Int.reduceToNat,Int.reduceEq,Int.reduceNe]
  refine ax_slc trivial 0 rfl (by omega) rfl fun c hc1 hc2 => ?_
  have hw : IntKind.i64.wrap ((bl.length : Int) + ((1 : Nat) : Int)) = ((bl.length + 1 : Nat) : Int) := by rw [wrap64] <;> omega
  refine srun_sound 300 _ _ _ _ ?_
  simp -implicitDefEqProofs only [hw,zr,Nat.reduceAdd,Nat.reduceSub,Nat.reduceMul,Nat.reduceLT,Nat.reduceLeDiff,Nat.reduceEqDiff,Nat.reduceBEq,reduceIte,reduceCtorEq,Int.reduceLE,Int.reduceLT,Int.reduceToNat,Int.reduceEq,Int.reduceNe]
  refine ax_capC rfl rfl ?_
  rcases Nat.lt_or_ge c (bl.length + 1) with hgc | hgc
  ·have dc : decide (c < bl.length + 1) = true := decide_eq_true hgc
   have hw2 : IntKind.i64.wrap (((bl.length + 1 : Nat) : Int) - (i : Int)) = ((bl.length + 1 - i : Nat) : Int) := by rw [wrap64] <;> omega
   have hw3 : IntKind.i64.wrap ((i : Int) + ((1 : Nat) : Int)) = ((i + 1 : Nat) : Int) := by rw [wrap64] <;> omega
   have e0 : i + (bl.length + 1 - i) = bl.length + 1 := by omega
   refine srun_sound 7 _ _ _ _ ?_
   simp -implicitDefEqProofs only [dc,zr,Nat.reduceAdd,Nat.reduceSub,Nat.reduceMul,Nat.reduceLT,Nat.reduceLeDiff,Nat.reduceEqDiff,Nat.reduceBEq,reduceIte,reduceCtorEq,Int.reduceLE,Int.reduceLT,Int.reduceToNat,Int.reduceEq,Int.reduceNe]
   refine ax_slC 0 i rfl (Nat.zero_le _) (by omega) rfl ⟨_,rfl⟩ ?_
   rw [if_pos (show 0 < c by omega)]
   simp only [Nat.zero_add,Nat.sub_zero]
   refine srun_sound 5 _ _ _ _ ?_
   simp -implicitDefEqProofs only [hw,hw2,zr,Nat.reduceAdd,Nat.reduceSub,Nat.reduceMul,Nat.reduceLT,Nat.reduceLeDiff,Nat.reduceEqDiff,Nat.reduceBEq,reduceIte,reduceCtorEq,Int.reduceLE,Int.reduceLT,Int.reduceToNat,Int.reduceEq,Int.reduceNe]
   refine ax_appN (n := i) (m := bl.length + 1 - i) 40 0 rfl rfl rfl (by omega) (by omega) (by rw [List.length_map,hrl];omega) (by omega) rfl ?_
   rw [e0]
   refine ax_sl trivial 0 rfl ?_
   simp only [Nat.zero_mul,List.drop_zero]
   have g3 : ((i : Int) ≤ ((bl.length + 1 : Nat) : Int)) = True := by rw [eq_iff_iff,iff_true];omega
   have g4 : (((bl.length + 1 : Nat) : Int) ≤ ((bl.length + 1 : Nat) : Int)) = True := by rw [eq_iff_iff,iff_true];omega
   have g5 : (((i + 1 : Nat) : Int) ≤ ((bl.length + 1 : Nat) : Int)) = True := by rw [eq_iff_iff,iff_true];omega
   have m1 : min 1 (bl.length + 1 - i) = 1 := by omega
   have m2 : min (bl.length - i) (bl.length + 1 - (i + 1)) = bl.length - i := by omega
   have hzl : (zeros (bl.length + 1 - i) [FV.str ⟨#[]⟩,FV.nil,FV.int .i64 0]).length = (bl.length + 1 - i) * 3 := by
    rw [zeros,List.length_map,flatten_len (sz := 3) _ (fun y hy => by rw [List.eq_of_mem_replicate hy];rfl),List.length_replicate]
   obtain ⟨Zs,hZ⟩ : ∃ Zs,zeros (bl.length + 1 - i) [FV.str ⟨#[]⟩,FV.nil,FV.int .i64 0] = Zs := ⟨_,rfl⟩
   rw [hZ] at hzl ⊢
   rw [← List.map_take,row_take (sz := 3) (fun _ => rfl)]
   have hAl : (rowF fEntry (bl.take i)).length = i * 3 := by rw [row_len (sz := 3) (fun _ => rfl),List.length_take];congr 1;omega
   have e1 : splice ((rowF fEntry (bl.take i)).map AV.f ++ Zs) (i * 3) ((fEntry b).map AV.f) = (rowF fEntry (bl.take i) ++ fEntry b).map AV.f ++ Zs.drop 3 := row_in1 (sz := 3) (fun _ => rfl) bl b hi Zs (by omega)
   have e2 : splice ((rowF fEntry (bl.take i) ++ fEntry b).map AV.f ++ Zs.drop 3) ((i + 1) * 3) ((((rowF fEntry bl).map AV.f).drop (i * 3)).take ((bl.length - i) * 3)) = (rowF fEntry (bl.take i ++ b :: bl.drop i)).map AV.f := row_in2 (sz := 3) (fun _ => rfl) bl b hi _ (by rw [List.length_drop,hzl];omega)
   have c1 : ((i + 1) * 3 ≤ ((rowF fEntry (bl.take i)).map AV.f ++ Zs).length) = True := by
    rw [eq_iff_iff,iff_true,List.length_append,List.length_map,hAl,hzl];omega
   have c2 : ((i + 1 + (bl.length - i)) * 3 ≤ ((rowF fEntry (bl.take i) ++ fEntry b).map AV.f ++ Zs.drop 3).length) = True := by
    rw [eq_iff_iff,iff_true,List.length_append,List.length_map,List.length_append,hAl,List.length_drop,hzl];simp [fEntry];omega
   have c3 : ((i + (bl.length - i)) * 3 ≤ bl.length * 3) = True := by rw [eq_iff_iff,iff_true];omega
   have c4 : ((fEntry b).map AV.f).take 3 = (fEntry b).map AV.f := rfl
   have c5 : (fEntry b).length = 3 := rfl
   refine srun_sound 300 _ _ _ _ ?_
   simp -implicitDefEqProofs only [hw3,g1,g2,g3,g4,g5,m1,m2,e1,e2,c1,c2,c3,c4,c5,hrl,Nat.one_mul,List.drop_zero,List.length_map,zr,Nat.reduceAdd,Nat.reduceSub,Nat.reduceMul,Nat.reduceLT,Nat.reduceLeDiff,Nat.reduceEqDiff,Nat.reduceBEq,reduceIte,reduceCtorEq,Int.reduceLE,Int.reduceLT,Int.reduceToNat,Int.reduceEq,Int.reduceNe]
   have hfl : (rowF fEntry (bl.take i ++ b :: bl.drop i)).length = (bl.length + 1) * 3 := by rw [row_len (sz := 3) (fun _ => rfl)];simp;omega
   exact ⟨[.sl 40 1 3 0 (bl.length + 1)],rfl,⟨.inr ⟨40,1,rfl,rfl,by rw [hfl];exact Nat.le_refl _⟩,rfl⟩,by simp [idsS]⟩
  ·have dc : decide (c < bl.length + 1) = false := decide_eq_false (by omega)
   refine srun_sound 10 _ _ _ _ ?_
   simp -implicitDefEqProofs only [dc,hw,zr,Nat.reduceAdd,Nat.reduceSub,Nat.reduceMul,Nat.reduceLT,Nat.reduceLeDiff,Nat.reduceEqDiff,Nat.reduceBEq,reduceIte,reduceCtorEq,Int.reduceLE,Int.reduceLT,Int.reduceToNat,Int.reduceEq,Int.reduceNe]
   refine ax_slC 0 (bl.length + 1) rfl (Nat.zero_le _) hgc rfl ⟨_,rfl⟩ ?_
   rw [if_pos (show 0 < c by omega)]
   simp only [Nat.zero_add,Nat.sub_zero]
   refine ax_wide trivial 60 ((bl.length + 1) * 3) rfl rfl (by omega) ?_
   refine ax_sl trivial 60 rfl ?_
   rw [List.length_map,hrl,show (bl.length + 1) * 3 - bl.length * 3 = 3 by omega]
   obtain ⟨Y,hY⟩ : ∃ Y,List.replicate 3 AV.any = Y := ⟨_,rfl⟩
   have hYl : Y.length = 3 := by rw [← hY];rfl
   rw [hY]
   have hw3 : IntKind.i64.wrap ((i : Int) + ((1 : Nat) : Int)) = ((i + 1 : Nat) : Int) := by rw [wrap64] <;> omega
   have g3 : ((i : Int) ≤ ((bl.length + 1 : Nat) : Int)) = True := by rw [eq_iff_iff,iff_true];omega
   have g4 : (((bl.length + 1 : Nat) : Int) ≤ ((bl.length + 1 : Nat) : Int)) = True := by rw [eq_iff_iff,iff_true];omega
   have g5 : (((i + 1 : Nat) : Int) ≤ ((bl.length + 1 : Nat) : Int)) = True := by rw [eq_iff_iff,iff_true];omega
   refine srun_sound 300 _ _ _ _ ?_
   simp -implicitDefEqProofs only [hw3,g1,g2,g3,g4,g5,zr,Nat.reduceAdd,Nat.reduceSub,Nat.reduceMul,Nat.reduceLT,Nat.reduceLeDiff,Nat.reduceEqDiff,Nat.reduceBEq,reduceIte,reduceCtorEq,Int.reduceLE,Int.reduceLT,Int.reduceToNat,Int.reduceEq,Int.reduceNe]
   obtain ⟨_,_,_,_,_,k1,k2,k3,k4,k5,k6,k7⟩ := ovE
   refine ax_apart k1 k2 k3 k4 k5 k6 k7 (.inl rfl) (.inl rfl) (by decide) (by omega) (by omega) (by omega) ?_
   obtain ⟨X,hX⟩ : ∃ X,((((rowF fEntry bl).map AV.f ++ Y).drop (i * 3)).take 3) = X := ⟨_,rfl⟩
   have hXl : X.length = 3 := by rw [← hX,List.length_take,List.length_drop,List.length_append,List.length_map,hrl,hYl];omega
   have e1 := row_up (enc := fEntry) (sz := 3) (fun _ => rfl) bl hi Y hYl
   rw [hX] at e1
   have e2 := row_in3 (enc := fEntry) (sz := 3) (fun _ => rfl) bl b hi X hXl
   have hAl : (rowF fEntry (bl.take i)).length = i * 3 := by rw [row_len (sz := 3) (fun _ => rfl),List.length_take];congr 1;omega
   have hDl : (rowF fEntry (bl.drop i)).length = (bl.length - i) * 3 := by rw [row_len (sz := 3) (fun _ => rfl),List.length_drop]
   have m1 : min 1 (bl.length + 1 - i) = 1 := by omega
   have m2 : min (bl.length + 1 - i) (bl.length + 1 - (i + 1)) = bl.length - i := by omega
   have c1 : ((i + 1 + (bl.length - i)) * 3 ≤ ((rowF fEntry bl).map AV.f ++ Y).length) = True := by
    rw [eq_iff_iff,iff_true,List.length_append,List.length_map,hrl,hYl];omega
   have c2 : ((i + (bl.length - i)) * 3 ≤ ((rowF fEntry bl).map AV.f ++ Y).length) = True := by
    rw [eq_iff_iff,iff_true,List.length_append,List.length_map,hrl,hYl];omega
   have c3 : ((i + 1) * 3 ≤ ((rowF fEntry (bl.take i)).map AV.f ++ (X ++ (rowF fEntry (bl.drop i)).map AV.f)).length) = True := by
    rw [eq_iff_iff,iff_true,List.length_append,List.length_append,List.length_map,List.length_map,hAl,hDl,hXl];omega
   have c4 : ((fEntry b).map AV.f).take 3 = (fEntry b).map AV.f := rfl
   have c5 : (fEntry b).length = 3 := rfl
   refine srun_sound 300 _ _ _ _ ?_
   simp -implicitDefEqProofs only [hw3,g1,g2,g3,g4,g5,m1,m2,e1,e2,c1,c2,c3,c4,c5,Nat.one_mul,List.drop_zero,List.length_map,zr,Nat.reduceAdd,Nat.reduceSub,Nat.reduceMul,Nat.reduceLT,Nat.reduceLeDiff,Nat.reduceEqDiff,Nat.reduceBEq,reduceIte,reduceCtorEq,Int.reduceLE,Int.reduceLT,Int.reduceToNat,Int.reduceEq,Int.reduceNe]
   have hfl : (rowF fEntry (bl.take i ++ b :: bl.drop i)).length = (bl.length + 1) * 3 := by rw [row_len (sz := 3) (fun _ => rfl)];simp;omega
   exact ⟨[.sl 80000 1 3 0 (bl.length + 1)],rfl,⟨.inr ⟨80000,1,rfl,rfl,by rw [hfl];exact Nat.le_refl _⟩,rfl⟩,by simp [idsS]⟩
end Go.Proofs.YtanhelgblnmdcaaDoor
