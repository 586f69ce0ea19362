/-
  Digests of bytes on the machine. No statement of the seat is proved here; no conditions.
-/
import Derived.Test.YtjacnfjlocajoaaDoorLowA
import Derived.Test.YtjacnfjlocajoaaDoorRun
namespace Go.Proofs.YtjacnfjlocajoaaDoor
open Go.RowKit
set_option linter.unusedVariables false
set_option linter.unusedSimpArgs false
set_option maxRecDepth 100000

def u64and (a b : Int) : Int := IntKind.u64.wrap ((BitVec.ofInt IntKind.u64.bits a &&& BitVec.ofInt IntKind.u64.bits b).toNat : Nat)
def u64xor (a b : Int) : Int := IntKind.u64.wrap ((BitVec.ofInt IntKind.u64.bits a ^^^ BitVec.ofInt IntKind.u64.bits b).toNat : Nat)
def digOne (n : Int) (c : UInt8) : Int := IntKind.u64.wrap (u64xor n (IntKind.u64.wrap (c.toNat : Nat)) * 1099511628211)
def digN (b : List UInt8) : Int := b.foldl digOne 14695981039346656037
def hexL : List UInt8 := [48,49,50,51,52,53,54,55,56,57,97,98,99,100,101,102]
def digShr (n : Int) : Int := n.fdiv (2 ^ min 4 IntKind.u64.bits)
def digTo (n : Int) : Nat → List UInt8 × Int
 | 0 => (List.replicate 16 0,n)
 | s + 1 => ((digTo n s).1.set (15 - s) (hexL.getD (u64and (digTo n s).2 15).toNat 0),digShr (digTo n s).2)
def digV (b : List UInt8) : ByteArray := ⟨(digTo (digN b) 16).1.toArray⟩
theorem digTo_len (n : Int) : ∀ s,(digTo n s).1.length = 16
 | 0 => rfl
 | s + 1 => by rw [digTo];simp only [List.length_set];exact digTo_len n s
theorem and15 (n : Int) : 0 ≤ u64and n 15 ∧ u64and n 15 < 16 := by
 have h : (BitVec.ofInt IntKind.u64.bits n &&& BitVec.ofInt IntKind.u64.bits 15).toNat ≤ 15 := by
  rw [BitVec.toNat_and]
  exact Nat.le_trans Nat.and_le_right (by decide)
 have h2 : u64and n 15 = ((BitVec.ofInt IntKind.u64.bits n &&& BitVec.ofInt IntKind.u64.bits 15).toNat : Int) := by
  unfold u64and
  rw [IntKind.wrap_u64]
  omega
 rw [h2];omega
theorem hex_at {i : Int} (h : 0 ≤ i ∧ i < 16) : hexL[i.toNat]? = some (hexL.getD i.toNat 0) := by
 rw [List.getD_eq_getElem?_getD]
 have : i.toNat < hexL.length := by show i.toNat < 16;omega
 rw [List.getElem?_eq_getElem this];rfl
set_option maxHeartbeats 1000000 in
theorem Digest_f (b : List UInt8) (hb : (b.length : Int) ≤ 9223372036854775807) : FRet Tryd.prog 60 [.f (frB b)] [.c (.v (.str (digV b)))] := by
 refine FCall.of_ax low_blob_Digest ?_
 dsimp only [l_blob_Digest,frB]
 refine srun_sound 300 _ _ _ _ ?_
 repeat' (first
  | (simp -implicitDefEqProofs only [*,zr,Nat.reduceAdd,Nat.reduceSub,Nat.reduceMul,Nat.reduceLT,Nat.reduceLeDiff,Nat.reduceEqDiff,Nat.reduceBEq,reduceIte,reduceCtorEq,Int.reduceLE,Int.reduceLT,Int.reduceToNat,Int.reduceEq,Int.reduceNe])
  | ((first|apply zk0|apply zk1|apply zk2|apply zk3|apply zk4|apply zk5|apply zk6|apply zk7|apply zk8|apply zk9) <;> intro hc)
  |(refine callP0 rfl ?_)
  |(refine callD0 rfl ?_)
  | fail)
 refine ax_loopU (S := Nat) 38 [8,9] [] (fun s => [(3,.f (.int .u64 (digN (b.take s)))),(10,.f (.int .i64 s))]) (fun s => []) (fun s => s ≤ b.length) (fun s => b.length - s) (0) [] ?_ ?_ fun s hs => ?_
 ·exact Nat.zero_le _
 ·refine wk_i ?_ ?_ <;> simp only [List.take_zero,show digN [] = 14695981039346656037 from rfl,zw,Nat.reduceEqDiff,Nat.reduceBEq,Nat.reduceLT,Nat.reduceLeDiff,reduceIte,reduceCtorEq]
 refine srun_sound 300 _ _ _ _ ?_
 rcases Nat.lt_or_ge s b.length with hlt | hge
 ·obtain ⟨x,hx⟩ := get_some hlt
  have h4 := inc64 hlt hb
  have h2 := lt_t hlt
  have hs2 : digN (b.take (s + 1)) = IntKind.u64.wrap (IntKind.u64.wrap ((BitVec.ofInt IntKind.u64.bits (digN (b.take s)) ^^^ BitVec.ofInt IntKind.u64.bits (IntKind.u64.wrap (x.toNat : Nat))).toNat : Nat) * 1099511628211) := by
   rw [List.take_add_one,hx,digN,List.foldl_append];rfl
  repeat' (first
   | (simp -implicitDefEqProofs only [*,List.getElem?_map,Option.map_some,encU,zr,Nat.reduceAdd,Nat.reduceSub,Nat.reduceMul,Nat.reduceLT,Nat.reduceLeDiff,Nat.reduceEqDiff,Nat.reduceBEq,reduceIte,reduceCtorEq,Int.reduceLE,Int.reduceLT,Int.reduceToNat,Int.reduceEq,Int.reduceNe])
   | ((first|apply zk0|apply zk1|apply zk2|apply zk3|apply zk4|apply zk5|apply zk6|apply zk7|apply zk8|apply zk9) <;> intro hc)
   |(refine callP0 rfl ?_)
   |(refine callD0 rfl ?_)
   | fail)
  refine ⟨s + 1,hlt,by omega,?_⟩
  rw [hs2]
  refine wk_i ?_ ?_ <;> simp only [zw,Nat.reduceEqDiff,Nat.reduceBEq,Nat.reduceLT,Nat.reduceLeDiff,reduceIte,reduceCtorEq]
 obtain rfl : s = b.length := by omega
 have h2 := lt_f hge
 have h3 := List.take_length (l := b)
 have hV : digV b = ⟨(digTo (digN b) 16).1.toArray⟩ := rfl
 obtain ⟨N,hN⟩ : ∃ N,digN b = N := ⟨_,rfl⟩
 rw [hV,hN]
 clear hV
 have k0 : ((16 : Int) * ((1 : Nat) : Int) ≤ 140737488355328) = True := eq_true (by decide)
 repeat' (first
  | (simp -implicitDefEqProofs only [*,zr,Nat.reduceAdd,Nat.reduceSub,Nat.reduceMul,Nat.reduceLT,Nat.reduceLeDiff,Nat.reduceEqDiff,Nat.reduceBEq,reduceIte,reduceCtorEq,Int.reduceLE,Int.reduceLT,Int.reduceToNat,Int.reduceEq,Int.reduceNe])
  | ((first|apply zk0|apply zk1|apply zk2|apply zk3|apply zk4|apply zk5|apply zk6|apply zk7|apply zk8|apply zk9) <;> intro hc)
  |(refine callP0 rfl ?_)
  |(refine callD0 rfl ?_)
  | fail)
 clear hge h2 h3 hs
 refine ax_loopU (S := Nat) 38 [6,22] [] (fun s => [(3,.f (.int .u64 (digTo N s).2)),(23,.f (.int .i64 s))]) (fun s => [(20,1,(rowF encU (digTo N s).1).map AV.f)]) (fun s => s ≤ 16) (fun s => 16 - s) (0) [] ?_ ?_ fun s hs => ?_
 ·exact Nat.zero_le _
 ·refine wk_i ?_ ?_ <;> simp only [digTo,zw,Nat.reduceEqDiff,Nat.reduceBEq,Nat.reduceLT,Nat.reduceLeDiff,reduceIte,reduceCtorEq]
  exact SlotsOk.of_eq (by rfl)
 refine srun_sound 300 _ _ _ _ ?_
 have hln := digTo_len N s
 rcases Nat.lt_or_ge s 16 with hlt | hge
 ·have hst : digTo N (s + 1) = ((digTo N s).1.set (15 - s) (hexL.getD (u64and (digTo N s).2 15).toNat 0),digShr (digTo N s).2) := rfl
  generalize digTo N s = t at hst hln ⊢
  obtain ⟨l,m⟩ := t
  simp only at hst hln ⊢
  have h4 := inc64 hlt (by decide)
  have h2 : decide ((s : Int) < ((16 : Nat) : Int)) = true := by rw [decide_eq_true_eq];omega
  have hw : IntKind.i64.wrap (15 - (s : Int)) = ((15 - s : Nat) : Int) := by rw [wrap64] <;> omega
  obtain ⟨q1,q2⟩ := and15 m
  have hx : (#[48,49,50,51,52,53,54,55,56,57,97,98,99,100,101,102] : Array UInt8).toList[(u64and m 15).toNat]? = some (hexL.getD (u64and m 15).toNat 0) := hex_at ⟨q1,q2⟩
  have hA : IntKind.u64.wrap ((BitVec.ofInt IntKind.u64.bits m &&& BitVec.ofInt IntKind.u64.bits 15).toNat : Nat) = u64and m 15 := rfl
  have hD : m.fdiv (2 ^ min 4 IntKind.u64.bits) = digShr m := rfl
  generalize u64and m 15 = i at *
  generalize hexL.getD i.toNat 0 = c at *
  generalize digShr m = m' at *
  have q3 : (0 ≤ i) = True := by rw [eq_iff_iff,iff_true];exact q1
  have k1 : ((15 - s : Nat) < 16) = True := by rw [eq_iff_iff,iff_true];omega
  have hin := row_in (enc := encU) (sz := 1) (l := l) (i := 15 - s) (fun _ => rfl) (by omega)
  have hset := row_set (enc := encU) (sz := 1) (l := l) (i := 15 - s) (x := c) (fun _ => rfl) (by omega)
  simp only [encU,List.map_cons,List.map_nil,splice,Nat.mul_one] at hset
  have hS := hst
  clear hst
  clear q1 q2
  have k5 : (rowF encU l).length = 16 := by rw [row_len (sz := 1) (fun _ => rfl),hln]
  rw [List.length_map,k5] at hin
  have k6 : (15 - s ≤ 15) = True := by rw [eq_iff_iff,iff_true];omega
  clear hln
  repeat' (first
   | (simp -implicitDefEqProofs only [*,zr,Nat.reduceAdd,Nat.reduceSub,Nat.reduceMul,Nat.reduceLT,Nat.reduceLeDiff,Nat.reduceEqDiff,Nat.reduceBEq,reduceIte,reduceCtorEq,Int.reduceLE,Int.reduceLT,Int.reduceToNat,Int.reduceEq,Int.reduceNe])
   | ((first|apply zk0|apply zk1|apply zk2|apply zk3|apply zk4|apply zk5|apply zk6|apply zk7|apply zk8|apply zk9) <;> intro hc)
   |(refine callP0 rfl ?_)
   |(refine callD0 rfl ?_)
   | fail)
  refine ⟨s + 1,hlt,by omega,?_⟩
  rw [hS]
  refine wk_i ?_ ?_ <;> simp only [zw,Nat.reduceEqDiff,Nat.reduceBEq,Nat.reduceLT,Nat.reduceLeDiff,reduceIte,reduceCtorEq]
 ·obtain rfl : s = 16 := by omega
  have h2 : decide (((16 : Nat) : Int) < ((16 : Nat) : Int)) = false := by decide
  generalize digTo N 16 = t at hln ⊢
  obtain ⟨l,m⟩ := t
  simp only at hln ⊢
  have k2 : ((16 : Nat) ≤ (rowF encU l).length) = True := by rw [eq_iff_iff,iff_true,row_len (sz := 1) (fun _ => rfl),hln];exact Nat.le_refl _
  have k3 : (List.map AV.f (rowF encU l)).take 16 = List.map AV.f (rowF encU l) := List.take_of_length_le (by rw [List.length_map,row_len (sz := 1) (fun _ => rfl),hln];exact Nat.le_refl _)
  have k4 : bytesA (List.map AV.f (rowF encU l)) = some l := bytesA_enc l
  clear hln
  repeat' (first
   | (simp -implicitDefEqProofs only [*,zr,Nat.reduceAdd,Nat.reduceSub,Nat.reduceMul,Nat.reduceLT,Nat.reduceLeDiff,Nat.reduceEqDiff,Nat.reduceBEq,reduceIte,reduceCtorEq,Int.reduceLE,Int.reduceLT,Int.reduceToNat,Int.reduceEq,Int.reduceNe])
   | ((first|apply zk0|apply zk1|apply zk2|apply zk3|apply zk4|apply zk5|apply zk6|apply zk7|apply zk8|apply zk9) <;> intro hc)
   |(refine callP0 rfl ?_)
   |(refine callD0 rfl ?_)
   | fail)
  exact ret_ve rfl
end Go.Proofs.YtjacnfjlocajoaaDoor
