/-
  A content that is there as a whole is taken. No statement of the seat is proved here; no conditions.
-/
import Derived.Test.YtjacnfjlocajoaaDoorWr3
namespace Go.Proofs.YtjacnfjlocajoaaDoor
open Go.RowKit Go.Shelf
set_option linter.unusedVariables false
set_option linter.unusedSimpArgs false
set_option maxRecDepth 100000

def fAn (m : Mg) : List FV := [.int .i64 m.1,.str m.2.1,.int .i64 m.2.2.1,.int .i64 m.2.2.2.1,.nil]
def rMg (m : Mg) : RS := .agg ((fAn m).map .v)
def rInt (n : Int) : RS := .c (.v (.int .i64 n))
theorem end_rc {H : Heap} {i1 v1 i2 v2 n m : Nat} {a : Mg} {fault : Int} {xs ys zs : List FV} {X : Nat × Option AObj} {l0 : List AV} (hp : X = (1,some (.cells ([.sl i1 v1 2 0 n,.sl i2 v2 3 0 m] ++ zs.map .f)))) (h1 : cellsOf v1 (H i1) = some (xs.map .f)) (h2 : cellsOf v2 (H i2) = some (ys.map .f)) (l1 : n * 2 ≤ xs.length) (l2 : m * 3 ≤ ys.length) (hl0 : l0 = (fAn a).map .f := by rfl) (hne : i1 ≠ i2 := by decide) (hn1 : 100001 ≠ i1 := by decide) (hn2 : 100001 ≠ i2 := by decide) :
  ∃ l cs',AV.tup [.agg l0,.f (.int .i64 fault)] = oneOrTup l ∧ X = (1,some (.cells cs')) ∧ RcsOk H ([.own 2 n xs,.own 3 m ys] ++ zs.map .v) cs' ∧ RsOk H [rMg a,rInt fault] l ∧ (idsC cs' ++ idsS l).Nodup ∧ ¬100001 ∈ idsC cs' ++ idsS l := by
 subst hl0
 have hz : ∀ zs : List FV,RcsOk H (zs.map .v) (zs.map .f) ∧ idsC (zs.map .f) = [] := fun zs => by
  induction zs with
  | nil => exact ⟨rfl,rfl⟩
  | cons z zs ih => exact ⟨⟨rfl,ih.1⟩,ih.2⟩
 have hi : idsC ([.sl i1 v1 2 0 n,.sl i2 v2 3 0 m] ++ zs.map .f) = [i1,i2] := by
  show i1 :: i2 :: idsC (zs.map .f) = _
  rw [(hz zs).2]
 exact ⟨[.agg ((fAn a).map .f),.f (.int .i64 fault)],_,rfl,hp,⟨.inr ⟨i1,v1,rfl,h1,l1⟩,.inr ⟨i2,v2,rfl,h2,l2⟩,(hz zs).1⟩,⟨⟨rfl,rfl,rfl,rfl,rfl,rfl⟩,rfl,rfl⟩,by rw [hi];simp [idsS,idsC,fAn,hne],by rw [hi];simp [idsS,idsC,fAn,hn1,hn2]⟩
theorem lenO {D : List Ob} {n : Nat} (h : D.length = n) : n * 2 ≤ (rowF fOb D).length := by rw [row_len (sz := 2) (fun _ => rfl),h];exact Nat.le_refl _
theorem lenP {P : List Pt} {n : Nat} (h : P.length = n) : n * 3 ≤ (rowF fPt P).length := by rw [row_len (sz := 3) (fun _ => rfl),h];exact Nat.le_refl _
theorem insO_len {D : List Ob} (h : Rising kOb D) {x : Ob} : (insO D x).length = D.length + 1 := by
 have : obIdx D x.1 ≤ D.length := bsIdx_le h x.1
 unfold insO;rw [List.length_append,List.length_take,List.length_cons,List.length_drop];omega
theorem insP_len {P : List Pt} (h : Rising kPt P) {x : Pt} : (insP P x).length = P.length + 1 := by
 have : ptIdx P x.1 ≤ P.length := bsIdx_le h x.1
 unfold insP;rw [List.length_append,List.length_take,List.length_cons,List.length_drop];omega
theorem whole_f (D : List Ob) (P : List Pt) (t : ByteArray) (b : List UInt8) (zs : List FV) (hD : D.length ≤ 4000) (hr : Rising kOb D) (hb : (b.length : Int) ≤ 9223372036854775807) :
  FRetP Tryd.prog 67 ([.own 2 D.length (rowF fOb D),.own 3 P.length (rowF fPt P)] ++ zs.map .v) [] [.f (.str t),.f (frB b)] ([.own 2 (wholeV D P t b).2.1.1.length (rowF fOb (wholeV D P t b).2.1.1),.own 3 P.length (rowF fPt P)] ++ zs.map .v) [rMg (wholeV D P t b).2.2,rInt (wholeV D P t b).1] := by
 have kd := Digest_f b hb
 have kat := doneAt_f D .any rfl t (by omega) hr
 have hlen := insO_len hr (x := (t,b))
 have hI := insertO_f D (obIdx D t) (t,b) (bsIdx_le hr t) (by omega)
 rw [show D.take (obIdx D t) ++ (t,b) :: D.drop (obIdx D t) = insO D (t,b) from rfl] at hI
 unfold wholeV
 generalize digV b = dv at *
 replace kd := hide kd
 replace kat := hide kat
 replace hI := hide hI
 have hrr := hide hr
 clear hr
 refine FCall.of_ax low_wire_whole ?_
 dsimp only [l_wire_whole]
 refine srun_sound 300 _ _ _ _ ?_
 by_cases hd : dv = t
 ·subst hd
  rw [if_pos rfl]
  have dd : decide (dv = dv) = true := dcT rfl
  by_cases h4 : 4000 ≤ D.length
  ·rw [if_pos h4]
   have d4 : decide ((D.length : Int) ≥ 4000) = true := dcT (by omega)
   clear hlen
   repeat' (first
    | (simp -implicitDefEqProofs only [*,putCs_v,putHcs_v,nextCs_v,List.cons_append,List.nil_append,zr,Nat.reduceAdd,Nat.reduceSub,Nat.reduceMul,Nat.reduceLT,Nat.reduceLeDiff,Nat.reduceEqDiff,Nat.reduceBEq,reduceIte,reduceCtorEq,Int.reduceLE,Int.reduceLT,Int.reduceToNat,Int.reduceEq,Int.reduceNe])
    | ((first|apply zk0|apply zk1|apply zk2|apply zk3|apply zk4|apply zk5|apply zk6|apply zk7|apply zk8|apply zk9) <;> intro hc)
    |(refine callP0 rfl ?_)
    |(refine callD0 rfl ?_)
    |(refine cP (kd.out) ?_)
    |(refine cD (kd.out) ?_)
    |(refine cF (kd.out) ?_)
    |(refine cO (kd.out) ?_)
    | fail)
   exact end_rc (zs := zs) rfl rfl rfl (lenO rfl) (lenP rfl)
  ·rw [if_neg h4]
   have d4 : decide ((D.length : Int) ≥ 4000) = false := dcF (by omega)
   repeat' (first
    | (simp -implicitDefEqProofs only [*,putCs_v,putHcs_v,nextCs_v,List.cons_append,List.nil_append,zr,Nat.reduceAdd,Nat.reduceSub,Nat.reduceMul,Nat.reduceLT,Nat.reduceLeDiff,Nat.reduceEqDiff,Nat.reduceBEq,reduceIte,reduceCtorEq,Int.reduceLE,Int.reduceLT,Int.reduceToNat,Int.reduceEq,Int.reduceNe])
    | ((first|apply zk0|apply zk1|apply zk2|apply zk3|apply zk4|apply zk5|apply zk6|apply zk7|apply zk8|apply zk9) <;> intro hc)
    |(refine callP0 rfl ?_)
    |(refine callD0 rfl ?_)
    |(refine cP (kd.out) ?_)
    |(refine cD (kd.out) ?_)
    |(refine cF (kd.out) ?_)
    |(refine cO (kd.out) ?_)
    | fail)
   refine gG kat.out ⟨fz_so ⟨so_row0 (enc := fOb) (sz := 2) (l := D) (fun _ => rfl) rfl rfl rfl,trivial,rfl⟩,fz_f,trivial⟩ ?_
   obtain ⟨i,hi⟩ : ∃ i,obIdx D dv = i := ⟨_,rfl⟩
   rw [hi] at hI ⊢
   generalize insO D (dv,b) = J at *
   replace hlen := hide hlen
   repeat' (first
    | (simp -implicitDefEqProofs only [*,zr,Nat.reduceAdd,Nat.reduceSub,Nat.reduceMul,Nat.reduceLT,Nat.reduceLeDiff,Nat.reduceEqDiff,Nat.reduceBEq,reduceIte,reduceCtorEq,Int.reduceLE,Int.reduceLT,Int.reduceToNat,Int.reduceEq,Int.reduceNe])
    | ((first|apply zk0|apply zk1|apply zk2|apply zk3|apply zk4|apply zk5|apply zk6|apply zk7|apply zk8|apply zk9) <;> intro hc)
    |(refine callP0 rfl ?_)
    |(refine callD0 rfl ?_)
    | fail)
   refine gM hI.out [.sl 80000 1 2 0 D.length,.f (.int .i64 i),.sl 40 1 2 0 1] [] ?_
   repeat' (first
    | (simp -implicitDefEqProofs only [*,zr,Nat.reduceAdd,Nat.reduceSub,Nat.reduceMul,Nat.reduceLT,Nat.reduceLeDiff,Nat.reduceEqDiff,Nat.reduceBEq,reduceIte,reduceCtorEq,Int.reduceLE,Int.reduceLT,Int.reduceToNat,Int.reduceEq,Int.reduceNe])
    | ((first|apply zk0|apply zk1|apply zk2|apply zk3|apply zk4|apply zk5|apply zk6|apply zk7|apply zk8|apply zk9) <;> intro hc)
    |(refine callP0 rfl ?_)
    |(refine callD0 rfl ?_)
    | fail)
   exact end_rc (zs := zs) rfl rfl rfl (lenO hlen.out) (lenP rfl)
 ·rw [if_neg hd]
  have dd := dcF hd
  clear hlen
  repeat' (first
   | (simp -implicitDefEqProofs only [*,putCs_v,putHcs_v,nextCs_v,List.cons_append,List.nil_append,zr,Nat.reduceAdd,Nat.reduceSub,Nat.reduceMul,Nat.reduceLT,Nat.reduceLeDiff,Nat.reduceEqDiff,Nat.reduceBEq,reduceIte,reduceCtorEq,Int.reduceLE,Int.reduceLT,Int.reduceToNat,Int.reduceEq,Int.reduceNe])
   | ((first|apply zk0|apply zk1|apply zk2|apply zk3|apply zk4|apply zk5|apply zk6|apply zk7|apply zk8|apply zk9) <;> intro hc)
   |(refine callP0 rfl ?_)
   |(refine callD0 rfl ?_)
   |(refine cP (kd.out) ?_)
   |(refine cD (kd.out) ?_)
   |(refine cF (kd.out) ?_)
   |(refine cO (kd.out) ?_)
   | fail)
  exact end_rc (zs := zs) rfl rfl rfl (lenO rfl) (lenP rfl)
end Go.Proofs.YtjacnfjlocajoaaDoor
