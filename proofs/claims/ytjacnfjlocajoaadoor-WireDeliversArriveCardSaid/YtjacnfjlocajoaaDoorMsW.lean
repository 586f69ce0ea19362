/-
  What is sent of a content. No statement of the seat is proved here; no conditions.
-/
import Derived.Test.YtjacnfjlocajoaaDoorRdg
namespace Go.Proofs.YtjacnfjlocajoaaDoor
open Go.RowKit Go.Shelf
set_option linter.unusedVariables false
set_option linter.unusedSimpArgs false
set_option maxRecDepth 100000

def ckC (t : ByteArray) (b : List UInt8) : Int := if isDig t = false then 3 else if 100000 < (b.length : Int) then 2 else 0
theorem checkContent_f (t : ByteArray) (b : List UInt8) : FRet Tryd.prog 32 [.f (.str t),.f (frB b)] [.c (.v (.int .i64 (ckC t b)))] := by
 have kI := isDigest_f t
 unfold ckC
 generalize isDig t = dg at *
 refine FCall.of_ax low_wire_checkContent ?_
 dsimp only [l_wire_checkContent]
 refine srun_sound 300 _ _ _ _ ?_
 cases dg with
 | false =>
  repeat' (first
   | (simp -implicitDefEqProofs only [*,zr,Nat.reduceAdd,Nat.reduceSub,Nat.reduceMul,Nat.reduceLT,Nat.reduceLeDiff,Nat.reduceEqDiff,Nat.reduceBEq,reduceIte,reduceCtorEq,Int.reduceLE,Int.reduceLT,Int.reduceToNat,Int.reduceEq,Int.reduceNe])
   | ((first|apply zk0|apply zk1|apply zk2|apply zk3|apply zk4|apply zk5|apply zk6|apply zk7|apply zk8|apply zk9) <;> intro hc)
   |(refine callP0 rfl ?_)
   |(refine callD0 rfl ?_)
   |(refine cP (kI) ?_)
   |(refine cD (kI) ?_)
   |(refine cF (kI) ?_)
   |(refine cO (kI) ?_)
   | fail)
  exact ret_v
 | true =>
  rw [if_neg (by decide)]
  by_cases h : 100000 < (b.length : Int)
  ·rw [if_pos h]
   have d1 : decide ((b.length : Int) > 100000) = true := dcT h
   have d2 : decide (100000 < (b.length : Int)) = true := dcT h
   repeat' (first
    | (simp -implicitDefEqProofs only [*,frB,List.length_map,zr,Nat.reduceAdd,Nat.reduceSub,Nat.reduceMul,Nat.reduceLT,Nat.reduceLeDiff,Nat.reduceEqDiff,Nat.reduceBEq,reduceIte,reduceCtorEq,Int.reduceLE,Int.reduceLT,Int.reduceToNat,Int.reduceEq,Int.reduceNe])
    | ((first|apply zk0|apply zk1|apply zk2|apply zk3|apply zk4|apply zk5|apply zk6|apply zk7|apply zk8|apply zk9) <;> intro hc)
    |(refine callP0 rfl ?_)
    |(refine callD0 rfl ?_)
    |(refine cP (kI) ?_)
    |(refine cD (kI) ?_)
    |(refine cF (kI) ?_)
    |(refine cO (kI) ?_)
    | fail)
   exact ret_v
  ·rw [if_neg h]
   have d1 : decide ((b.length : Int) > 100000) = false := dcF h
   have d2 : decide (100000 < (b.length : Int)) = false := dcF h
   repeat' (first
    | (simp -implicitDefEqProofs only [*,frB,List.length_map,zr,Nat.reduceAdd,Nat.reduceSub,Nat.reduceMul,Nat.reduceLT,Nat.reduceLeDiff,Nat.reduceEqDiff,Nat.reduceBEq,reduceIte,reduceCtorEq,Int.reduceLE,Int.reduceLT,Int.reduceToNat,Int.reduceEq,Int.reduceNe])
    | ((first|apply zk0|apply zk1|apply zk2|apply zk3|apply zk4|apply zk5|apply zk6|apply zk7|apply zk8|apply zk9) <;> intro hc)
    |(refine callP0 rfl ?_)
    |(refine callD0 rfl ?_)
    |(refine cP (kI) ?_)
    |(refine cD (kI) ?_)
    |(refine cF (kI) ?_)
    |(refine cO (kI) ?_)
    | fail)
   exact ret_v
def dMsg (t : ByteArray) (b : List UInt8) (f most : Nat) : Mg := (2,t,f,0,(b.drop f).take most)
theorem dataFrom_f (t : ByteArray) (b : List UInt8) (f most : Nat) (hf : f ≤ b.length) (hm : most ≤ 65536) (hb : b.length ≤ 100000) :
  FRet Tryd.prog 33 [.f (.str t),.f (frB b),.f (.int .i64 f),.f (.int .i64 most)] [.agg ((fMg (dMsg t b f most)).map .v)] := by
 have k := cloneY_z ((b.drop f).take most) (by rw [List.length_take];omega)
 have h1 : IntKind.i64.wrap ((f : Int) + (most : Int)) = ((f + most : Nat) : Int) := by rw [wrap64] <;> omega
 have h2 : min ((f + most : Nat) : Int) ((b.length : Nat) : Int) = ((min (f + most) b.length : Nat) : Int) := by omega
 have e1 : List.drop f (List.take (min (f + most) b.length) (List.map encU b)) = ((b.drop f).take most).map encU := by
  rw [List.map_take,List.map_drop]
  refine List.ext_getElem? fun i => ?_
  rw [List.getElem?_drop,List.getElem?_take,List.getElem?_take,List.getElem?_drop]
  by_cases hi : i < most
  ·rw [if_pos hi]
   by_cases h3 : f + i < min (f + most) b.length
   ·rw [if_pos h3]
   ·rw [if_neg h3,List.getElem?_eq_none (by rw [List.length_map];omega)]
  ·rw [if_neg hi,if_neg (by omega)]
 refine FCall.of_ax low_wire_dataFrom ?_
 dsimp only [l_wire_dataFrom,frB,dMsg,fMg,List.map] at k ⊢
 refine srun_sound 300 _ _ _ _ ?_
 generalize (b.drop f).take most = C at *
 have g1 : ((f : Int) ≤ ((min (f + most) b.length : Nat) : Int)) = True := by rw [eq_iff_iff,iff_true];omega
 have g2 : (((min (f + most) b.length : Nat) : Int) ≤ (b.length : Int)) = True := by rw [eq_iff_iff,iff_true];omega
 repeat' (first
  | (simp -implicitDefEqProofs only [*,List.length_map,zr,Nat.reduceAdd,Nat.reduceSub,Nat.reduceMul,Nat.reduceLT,Nat.reduceLeDiff,Nat.reduceEqDiff,Nat.reduceBEq,reduceIte,reduceCtorEq,Int.reduceLE,Int.reduceLT,Int.reduceToNat,Int.reduceEq,Int.reduceNe])
  | ((first|apply zk0|apply zk1|apply zk2|apply zk3|apply zk4|apply zk5|apply zk6|apply zk7|apply zk8|apply zk9) <;> intro hc)
  |(refine callP0 rfl ?_)
  |(refine callD0 rfl ?_)
  |(refine cP (k) ?_)
  |(refine cD (k) ?_)
  |(refine cF (k) ?_)
  |(refine cO (k) ?_)
  | fail)
 exact ⟨[.agg [.f (.int .i64 2),.f (.str t),.f (.int .i64 f),.f (.int .i64 0),.f (.fr 1 (List.map encU C))]],rfl,⟨⟨rfl,rfl,rfl,rfl,rfl,rfl⟩,rfl⟩,List.nodup_nil⟩
end Go.Proofs.YtjacnfjlocajoaaDoor
