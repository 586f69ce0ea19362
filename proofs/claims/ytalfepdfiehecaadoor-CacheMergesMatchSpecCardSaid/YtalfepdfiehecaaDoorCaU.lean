/-
  The cache's own, digestsOf, checkAt, held, drop, Swept on the machine. No statement of the seat is proved here; no conditions.
-/
import Derived.Test.YtalfepdfiehecaaDoorLowA
import Derived.Test.YtalfepdfiehecaaDoorCaC
import Derived.Test.YtalfepdfiehecaaDoorEngV
import Derived.Test.YtalfepdfiehecaaDoorOrd
namespace Go.Proofs.YtalfepdfiehecaaDoor
open Go.RowKit Go.Shelf
set_option linter.unusedVariables false
set_option linter.unusedSimpArgs false
set_option maxRecDepth 100000

def encS (s : ByteArray) : List FV := [.str s]
theorem cloneB_f (l : List Blob) (hl : l.length ≤ 1000000) : FRet Tryd.prog 46 [.f (.fr 5 (l.map fBlob))] [.c (.own 5 l.length (rowF fBlob l))] := by
 refine FCall.of_ax low_slices_Clone_api_Blob_api_Blob ?_
 dsimp only [l_slices_Clone_api_Blob_api_Blob]
 refine srun_sound 300 _ _ _ _ ?_
 have h1 : (l.length * 48 ≤ 140737488355328) = True := by rw [eq_iff_iff,iff_true];omega
 rcases Nat.eq_zero_or_pos l.length with h0 | h0
 ·obtain rfl := List.eq_nil_of_length_eq_zero h0
  repeat' (first
   | (simp -implicitDefEqProofs only [*,condS_bit,List.flatten_nil,List.map_nil,zr,Nat.reduceAdd,Nat.reduceSub,Nat.reduceMul,Nat.reduceLT,Nat.reduceLeDiff,Nat.reduceEqDiff,Nat.reduceBEq,reduceIte,reduceCtorEq,Int.reduceLE,Int.reduceLT,Int.reduceToNat,Int.reduceEq,Int.reduceNe])
   | ((first|apply zk0|apply zk1|apply zk2|apply zk3|apply zk4|apply zk5|apply zk6|apply zk7|apply zk8|apply zk9) <;> intro hc)
   |(refine callP0 rfl ?_)
   |(refine callD0 rfl ?_)
   | fail)
  refine ⟨?_,?_⟩
  ·repeat' (first
    | (simp -implicitDefEqProofs only [*,List.flatten_nil,List.map_nil,zr,Nat.reduceAdd,Nat.reduceSub,Nat.reduceMul,Nat.reduceLT,Nat.reduceLeDiff,Nat.reduceEqDiff,Nat.reduceBEq,reduceIte,reduceCtorEq,Int.reduceLE,Int.reduceLT,Int.reduceToNat,Int.reduceEq,Int.reduceNe])
    | ((first|apply zk0|apply zk1|apply zk2|apply zk3|apply zk4|apply zk5|apply zk6|apply zk7|apply zk8|apply zk9) <;> intro hc)
    |(refine callP0 rfl ?_)
    |(refine callD0 rfl ?_)
    | fail)
   exact ret_on rfl rfl
  ·repeat' (first
    | (simp -implicitDefEqProofs only [*,List.flatten_nil,List.map_nil,zr,Nat.reduceAdd,Nat.reduceSub,Nat.reduceMul,Nat.reduceLT,Nat.reduceLeDiff,Nat.reduceEqDiff,Nat.reduceBEq,reduceIte,reduceCtorEq,Int.reduceLE,Int.reduceLT,Int.reduceToNat,Int.reduceEq,Int.reduceNe])
    | ((first|apply zk0|apply zk1|apply zk2|apply zk3|apply zk4|apply zk5|apply zk6|apply zk7|apply zk8|apply zk9) <;> intro hc)
    |(refine callP0 rfl ?_)
    |(refine callD0 rfl ?_)
    | fail)
   exact ret_o rfl (by simp)
 ·have h0' : (l.length = 0) = False := by rw [eq_iff_iff,iff_false];omega
  clear h0
  repeat' (first
   | (simp -implicitDefEqProofs only [*,zr,Nat.reduceAdd,Nat.reduceSub,Nat.reduceMul,Nat.reduceLT,Nat.reduceLeDiff,Nat.reduceEqDiff,Nat.reduceBEq,reduceIte,reduceCtorEq,Int.reduceLE,Int.reduceLT,Int.reduceToNat,Int.reduceEq,Int.reduceNe])
   | ((first|apply zk0|apply zk1|apply zk2|apply zk3|apply zk4|apply zk5|apply zk6|apply zk7|apply zk8|apply zk9) <;> intro hc)
   |(refine callP0 rfl ?_)
   |(refine callD0 rfl ?_)
   | fail)
  exact ret_o (by simp [cellsOf,H0,rowF]) (by rw [row_len (sz := 5) (fun _ => rfl)];omega)

theorem cloneE_f (l : List Entry) (hl : l.length ≤ 1000000) : FRet Tryd.prog 47 [.f (.fr 3 (l.map fEntry))] [.c (.own 3 l.length (rowF fEntry l))] := by
 refine FCall.of_ax low_slices_Clone_api_Entry_api_Entry ?_
 dsimp only [l_slices_Clone_api_Entry_api_Entry]
 refine srun_sound 300 _ _ _ _ ?_
 have h1 : (l.length * 48 ≤ 140737488355328) = True := by rw [eq_iff_iff,iff_true];omega
 rcases Nat.eq_zero_or_pos l.length with h0 | h0
 ·obtain rfl := List.eq_nil_of_length_eq_zero h0
  repeat' (first
   | (simp -implicitDefEqProofs only [*,condS_bit,List.flatten_nil,List.map_nil,zr,Nat.reduceAdd,Nat.reduceSub,Nat.reduceMul,Nat.reduceLT,Nat.reduceLeDiff,Nat.reduceEqDiff,Nat.reduceBEq,reduceIte,reduceCtorEq,Int.reduceLE,Int.reduceLT,Int.reduceToNat,Int.reduceEq,Int.reduceNe])
   | ((first|apply zk0|apply zk1|apply zk2|apply zk3|apply zk4|apply zk5|apply zk6|apply zk7|apply zk8|apply zk9) <;> intro hc)
   |(refine callP0 rfl ?_)
   |(refine callD0 rfl ?_)
   | fail)
  refine ⟨?_,?_⟩
  ·repeat' (first
    | (simp -implicitDefEqProofs only [*,List.flatten_nil,List.map_nil,zr,Nat.reduceAdd,Nat.reduceSub,Nat.reduceMul,Nat.reduceLT,Nat.reduceLeDiff,Nat.reduceEqDiff,Nat.reduceBEq,reduceIte,reduceCtorEq,Int.reduceLE,Int.reduceLT,Int.reduceToNat,Int.reduceEq,Int.reduceNe])
    | ((first|apply zk0|apply zk1|apply zk2|apply zk3|apply zk4|apply zk5|apply zk6|apply zk7|apply zk8|apply zk9) <;> intro hc)
    |(refine callP0 rfl ?_)
    |(refine callD0 rfl ?_)
    | fail)
   exact ret_on rfl rfl
  ·repeat' (first
    | (simp -implicitDefEqProofs only [*,List.flatten_nil,List.map_nil,zr,Nat.reduceAdd,Nat.reduceSub,Nat.reduceMul,Nat.reduceLT,Nat.reduceLeDiff,Nat.reduceEqDiff,Nat.reduceBEq,reduceIte,reduceCtorEq,Int.reduceLE,Int.reduceLT,Int.reduceToNat,Int.reduceEq,Int.reduceNe])
    | ((first|apply zk0|apply zk1|apply zk2|apply zk3|apply zk4|apply zk5|apply zk6|apply zk7|apply zk8|apply zk9) <;> intro hc)
    |(refine callP0 rfl ?_)
    |(refine callD0 rfl ?_)
    | fail)
   exact ret_o rfl (by simp)
 ·have h0' : (l.length = 0) = False := by rw [eq_iff_iff,iff_false];omega
  clear h0
  repeat' (first
   | (simp -implicitDefEqProofs only [*,zr,Nat.reduceAdd,Nat.reduceSub,Nat.reduceMul,Nat.reduceLT,Nat.reduceLeDiff,Nat.reduceEqDiff,Nat.reduceBEq,reduceIte,reduceCtorEq,Int.reduceLE,Int.reduceLT,Int.reduceToNat,Int.reduceEq,Int.reduceNe])
   | ((first|apply zk0|apply zk1|apply zk2|apply zk3|apply zk4|apply zk5|apply zk6|apply zk7|apply zk8|apply zk9) <;> intro hc)
   |(refine callP0 rfl ?_)
   |(refine callD0 rfl ?_)
   | fail)
  exact ret_o (by simp [cellsOf,H0,rowF]) (by rw [row_len (sz := 3) (fun _ => rfl)];omega)

theorem cloneS_f (l : List ByteArray) (hl : l.length ≤ 1000000) : FRet Tryd.prog 48 [.f (.fr 1 (l.map encS))] [.c (.own 1 l.length (rowF encS l))] := by
 refine FCall.of_ax low_slices_Clone_string_string ?_
 dsimp only [l_slices_Clone_string_string]
 refine srun_sound 300 _ _ _ _ ?_
 have h1 : (l.length * 16 ≤ 140737488355328) = True := by rw [eq_iff_iff,iff_true];omega
 rcases Nat.eq_zero_or_pos l.length with h0 | h0
 ·obtain rfl := List.eq_nil_of_length_eq_zero h0
  repeat' (first
   | (simp -implicitDefEqProofs only [*,condS_bit,List.flatten_nil,List.map_nil,zr,Nat.reduceAdd,Nat.reduceSub,Nat.reduceMul,Nat.reduceLT,Nat.reduceLeDiff,Nat.reduceEqDiff,Nat.reduceBEq,reduceIte,reduceCtorEq,Int.reduceLE,Int.reduceLT,Int.reduceToNat,Int.reduceEq,Int.reduceNe])
   | ((first|apply zk0|apply zk1|apply zk2|apply zk3|apply zk4|apply zk5|apply zk6|apply zk7|apply zk8|apply zk9) <;> intro hc)
   |(refine callP0 rfl ?_)
   |(refine callD0 rfl ?_)
   | fail)
  refine ⟨?_,?_⟩
  ·repeat' (first
    | (simp -implicitDefEqProofs only [*,List.flatten_nil,List.map_nil,zr,Nat.reduceAdd,Nat.reduceSub,Nat.reduceMul,Nat.reduceLT,Nat.reduceLeDiff,Nat.reduceEqDiff,Nat.reduceBEq,reduceIte,reduceCtorEq,Int.reduceLE,Int.reduceLT,Int.reduceToNat,Int.reduceEq,Int.reduceNe])
    | ((first|apply zk0|apply zk1|apply zk2|apply zk3|apply zk4|apply zk5|apply zk6|apply zk7|apply zk8|apply zk9) <;> intro hc)
    |(refine callP0 rfl ?_)
    |(refine callD0 rfl ?_)
    | fail)
   exact ret_on rfl rfl
  ·repeat' (first
    | (simp -implicitDefEqProofs only [*,List.flatten_nil,List.map_nil,zr,Nat.reduceAdd,Nat.reduceSub,Nat.reduceMul,Nat.reduceLT,Nat.reduceLeDiff,Nat.reduceEqDiff,Nat.reduceBEq,reduceIte,reduceCtorEq,Int.reduceLE,Int.reduceLT,Int.reduceToNat,Int.reduceEq,Int.reduceNe])
    | ((first|apply zk0|apply zk1|apply zk2|apply zk3|apply zk4|apply zk5|apply zk6|apply zk7|apply zk8|apply zk9) <;> intro hc)
    |(refine callP0 rfl ?_)
    |(refine callD0 rfl ?_)
    | fail)
   exact ret_o rfl (by simp)
 ·have h0' : (l.length = 0) = False := by rw [eq_iff_iff,iff_false];omega
  clear h0
  repeat' (first
   | (simp -implicitDefEqProofs only [*,zr,Nat.reduceAdd,Nat.reduceSub,Nat.reduceMul,Nat.reduceLT,Nat.reduceLeDiff,Nat.reduceEqDiff,Nat.reduceBEq,reduceIte,reduceCtorEq,Int.reduceLE,Int.reduceLT,Int.reduceToNat,Int.reduceEq,Int.reduceNe])
   | ((first|apply zk0|apply zk1|apply zk2|apply zk3|apply zk4|apply zk5|apply zk6|apply zk7|apply zk8|apply zk9) <;> intro hc)
   |(refine callP0 rfl ?_)
   |(refine callD0 rfl ?_)
   | fail)
  exact ret_o (by simp [cellsOf,H0,rowF]) (by rw [row_len (sz := 1) (fun _ => rfl)];omega)

section
variable {α : Type} {p : α → Bool} {l m : List α} {i j : Nat} {x : α}
def keepL (p : α → Bool) (l : List α) : List α := l.filter fun x => !p x
structure Del (p : α → Bool) (l : List α) (i j : Nat) (m : List α) : Prop where
 ij : i < j
 jl : j ≤ l.length
 ml : m.length = l.length
 tk : m.take i = keepL p (l.take j)
 dr : m.drop j = l.drop j
end
def heldB (b : Blob) (at_ : Int) : Bool := decide (0 < b.2.2.2.2) || decide (at_ < b.2.2.2.1)
theorem ret_own5 {room lease : FV} {n m : Nat} {cs ds : List FV} {i v j u : Nat} {H : Heap} (h1 : cellsOf v (H i) = some (cs.map .f)) (h2 : cellsOf u (H j) = some (ds.map .f)) (h3 : n * 5 ≤ cs.length) (h4 : m * 3 ≤ ds.length) (hij : decide (i = j) = false := by rfl) : Rets [.agg [.v room,.v lease,.own 5 n cs,.own 3 m ds]] (.agg [.f room,.f lease,.sl i v 5 0 n,.sl j u 3 0 m]) H :=
 ⟨[_],rfl,⟨⟨rfl,rfl,.inr ⟨_,_,rfl,h1,h3⟩,.inr ⟨_,_,rfl,h2,h4⟩,rfl⟩,rfl⟩,by
  have := of_decide_eq_false hij
  simp [idsS,idsC,this]⟩
theorem own_f (c : Cache) (hb : c.2.2.1.length ≤ 1000000) (he : c.2.2.2.length ≤ 1000000) (hr : ∀ e ∈ c.2.2.2,e.2.1.length ≤ 1000000) :
  FRet Tryd.prog 23 [aCache c] [.agg [.v (.int .i64 c.1),.v (.int .i64 c.2.1),.own 5 c.2.2.1.length (rowF fBlob c.2.2.1),.own 3 c.2.2.2.length (rowF fEntry c.2.2.2)]] := by
 obtain ⟨room,lease,bl,en⟩ := c
 simp only at hb he hr ⊢
 have hR := hide hr
 clear hr
 refine FCall.of_ax low_cache_own ?_
 dsimp only [l_cache_own,aCache]
 refine srun_sound 300 _ _ _ _ ?_
 repeat' (first
  | (simp -implicitDefEqProofs only [*,frBlobs,frEntries,addFp_wr,zr,Nat.reduceAdd,Nat.reduceSub,Nat.reduceMul,Nat.reduceLT,Nat.reduceLeDiff,Nat.reduceEqDiff,Nat.reduceBEq,reduceIte,reduceCtorEq,Int.reduceLE,Int.reduceLT,Int.reduceToNat,Int.reduceEq,Int.reduceNe])
  | ((first|apply zk0|apply zk1|apply zk2|apply zk3|apply zk4|apply zk5|apply zk6|apply zk7|apply zk8|apply zk9) <;> intro hc)
  |(refine callP0 rfl ?_)
  |(refine callD0 rfl ?_)
  |(refine cP (cloneB_f bl hb) ?_)
  |(refine cD (cloneB_f bl hb) ?_)
  |(refine cF (cloneB_f bl hb) ?_)
  |(refine cO (cloneB_f bl hb) ?_)
  |(refine cP (cloneE_f en he) ?_)
  |(refine cD (cloneE_f en he) ?_)
  |(refine cF (cloneE_f en he) ?_)
  |(refine cO (cloneE_f en he) ?_)
  | fail)
 refine ax_loopU (S := Nat) 32 [1,2,14] [1,2,6] (fun s => [(15,.f (.int .i64 s))]) (fun s => [(9,1,(rowF fEntry en).map AV.f)]) (fun s => s ≤ en.length) (fun s => en.length - s) (0) [] ?_ ?_ fun s hs => ?_
 ·exact Nat.zero_le _
 ·refine wk_i ?_ ?_ <;> simp only [zw,Nat.reduceEqDiff,Nat.reduceBEq,Nat.reduceLT,Nat.reduceLeDiff,reduceIte,reduceCtorEq]
 refine srun_sound 300 _ _ _ _ ?_
 rcases Nat.lt_or_ge s en.length with hlt | hge
 ·obtain ⟨x,hx⟩ := get_some hlt
  have h4 := inc64 hlt (by omega)
  have h2 := lt_t hlt
  have hxr := hR.out x (List.mem_of_getElem? hx)
  have hcell := row_cell (enc := fEntry) (sz := 3) (j := 1) (fun _ => rfl) hx (show _ = some (frStrs x.2.1) from rfl)
  have hin : (s * 3 + 1 + 1 ≤ (rowF fEntry en).length) = True := by
   have := row_in (enc := fEntry) (sz := 3) (l := en) (fun _ => rfl) hlt
   rw [eq_iff_iff,iff_true,List.length_map] at this
   rw [eq_iff_iff,iff_true];omega
  have hX := hide hx
  clear hx
  repeat' (first
   | (simp -implicitDefEqProofs only [*,frStrs,addFp_wr,zr,Nat.reduceAdd,Nat.reduceSub,Nat.reduceMul,Nat.reduceLT,Nat.reduceLeDiff,Nat.reduceEqDiff,Nat.reduceBEq,reduceIte,reduceCtorEq,Int.reduceLE,Int.reduceLT,Int.reduceToNat,Int.reduceEq,Int.reduceNe])
   | ((first|apply zk0|apply zk1|apply zk2|apply zk3|apply zk4|apply zk5|apply zk6|apply zk7|apply zk8|apply zk9) <;> intro hc)
   |(refine callP0 rfl ?_)
   |(refine callD0 rfl ?_)
   |(refine cP (cloneS_f x.2.1 hxr) ?_)
   |(refine cD (cloneS_f x.2.1 hxr) ?_)
   |(refine cF (cloneS_f x.2.1 hxr) ?_)
   |(refine cO (cloneS_f x.2.1 hxr) ?_)
   | fail)
  refine ⟨s + 1,hlt,by omega,?_⟩
  refine wk_i ?_ ?_ <;> simp only [zw,Nat.reduceEqDiff,Nat.reduceBEq,Nat.reduceLT,Nat.reduceLeDiff,reduceIte,reduceCtorEq]
  refine SlotsOk.set fun y hy => ?_
  rw [List.getElem?_map,hy] at hcell
  have e : y = frStrs x.2.1 := by
   have := Option.some.inj hcell
   exact AV.f.inj this
  subst e
  exact so_row0 (enc := encS) (l := x.2.1) (fun _ => rfl) rfl (by simp [cellsOf,upd_get]) rfl
 ·obtain rfl : s = en.length := by omega
  have h2 := lt_f hge
  repeat' (first
   | (simp -implicitDefEqProofs only [*,zr,Nat.reduceAdd,Nat.reduceSub,Nat.reduceMul,Nat.reduceLT,Nat.reduceLeDiff,Nat.reduceEqDiff,Nat.reduceBEq,reduceIte,reduceCtorEq,Int.reduceLE,Int.reduceLT,Int.reduceToNat,Int.reduceEq,Int.reduceNe])
   | ((first|apply zk0|apply zk1|apply zk2|apply zk3|apply zk4|apply zk5|apply zk6|apply zk7|apply zk8|apply zk9) <;> intro hc)
   |(refine callP0 rfl ?_)
   |(refine callD0 rfl ?_)
   | fail)
  exact ret_own5 rfl rfl (by rw [row_len (sz := 5) (fun _ => rfl)];exact Nat.le_refl _) (by rw [row_len (sz := 3) (fun _ => rfl)];exact Nat.le_refl _)
end Go.Proofs.YtalfepdfiehecaaDoor
