/-
  Digests of bytes on the machine. No statement of the seat is proved here; no conditions.
-/
import Derived.Test.YtjfchihkhpinmaaGreatDoorLowA
import Derived.Test.YtjfchihkhpinmaaGreatDoorRun
namespace Go.Proofs.YtjfchihkhpinmaaGreatDoor
open Go.RowKit
set_option linter.unusedVariables false
set_option linter.unusedSimpArgs false
set_option maxRecDepth 100000

def Zj (a b:Int):Int:=IntKind.u64.wrap ((BitVec.ofInt IntKind.u64.bits a &&&BitVec.ofInt IntKind.u64.bits b).toNat:Nat)
def u64xor (a b:Int):Int:=IntKind.u64.wrap ((BitVec.ofInt IntKind.u64.bits a ^^^ BitVec.ofInt IntKind.u64.bits b).toNat:Nat)
def QC2 (n:Int) (c:UInt8):Int:=IntKind.u64.wrap (u64xor n (IntKind.u64.wrap (c.toNat:Nat))*1099511628211)
def digN (b:List UInt8):Int:=b.foldl QC2 14695981039346656037
def hexL:List UInt8:=[48,49,50,51,52,53,54,55,56,57,97,98,99,100,101,102]
def QBR (n:Int):Int:=n.fdiv (2 ^ min 4 IntKind.u64.bits)
def YX (n:Int):Nat→List UInt8 × Int
 | 0=>(List.replicate 16 0,n)
 | s+1=>((YX n s).1.set (15 - s) (hexL.getD (Zj (YX n s).2 15).toNat 0),QBR (YX n s).2)
def digV (b:List UInt8):ByteArray:=⟨(YX (digN b) 16).1.toArray⟩
theorem YI (n:Int):∀ s,(YX n s).1.length=16
 | 0=>rfl
 | s+1=>by rw[YX];simp only[List.length_set];exact YI n s
theorem and15 (n:Int):0≤Zj n 15∧Zj n 15<16:=by
 have h:(BitVec.ofInt IntKind.u64.bits n &&&BitVec.ofInt IntKind.u64.bits 15).toNat≤15:=by
  rw[BitVec.toNat_and]
  exact Nat.le_trans Nat.and_le_right (by decide)
 have h2:Zj n 15=((BitVec.ofInt IntKind.u64.bits n &&&BitVec.ofInt IntKind.u64.bits 15).toNat:Int):=by
  unfold Zj
  rw[IntKind.wrap_u64]
  omega
 rw[h2];omega
theorem hex_at {i:Int}(h:0≤i∧i<16):hexL[i.toNat]? = some (hexL.getD i.toNat 0):=by
 rw[List.getD_eq_getElem?_getD]
 have:i.toNat<hexL.length:=by show i.toNat<16;omega
 rw[List.getElem?_eq_getElem this];rfl
set_option maxHeartbeats 1000000 in
theorem Ju (b:List UInt8) (hb:(b.length:Int)≤9223372036854775807):FRet Tryz.prog 17 [.f (frB b)] [.c (.v (.str (digV b)))]:=by
 refine FCall.of_ax NZ ?_
 dsimp only[jm,ji,jf,jl,jL,jn,je,jx,jT,jC,jB,jq,jt,ju,jA,km,kf,kl,kn,kx,WJ,frB]
 refine zrs ?_
 repeat'(first|(simp -implicitDefEqProofs only[*,zr,Nat.reduceAdd,Nat.reduceSub,Nat.reduceMul,Nat.reduceLT,Nat.reduceLeDiff,Nat.reduceEqDiff,Nat.reduceBEq,reduceIte,reduceCtorEq,Int.reduceLE,Int.reduceLT,Int.reduceToNat,Int.reduceEq,Int.reduceNe])|(apply zk<;>intro hc)|(refine zp ?_)|(refine zd ?_)|fail)
 refine QK (S:=Nat) 38 [8,9] [] (fun s=>[(3,.f (.int .u64 (digN (b.take s)))),(10,.f (.int .i64 s))]) (fun s=>[]) (fun s=>s≤b.length) (fun s=>b.length - s) (0) [] ?_ ?_ fun s hs=> ?_
 ·exact Nat.zero_le _
 ·refine wk_i ?_ ?_<;>simp only[List.take_zero,show digN []=14695981039346656037 from rfl,zw,Nat.reduceEqDiff,Nat.reduceBEq,Nat.reduceLT,Nat.reduceLeDiff,reduceIte,reduceCtorEq]
 refine zrs ?_
 rcases Nat.lt_or_ge s b.length with hlt|hge
 ·obtain⟨x,hx⟩:=QH hlt
  have h4:=XU hlt hb
  have h2:=lt_t hlt
  have hs2:digN (b.take (s+1))=IntKind.u64.wrap (IntKind.u64.wrap ((BitVec.ofInt IntKind.u64.bits (digN (b.take s)) ^^^ BitVec.ofInt IntKind.u64.bits (IntKind.u64.wrap (x.toNat:Nat))).toNat:Nat)*1099511628211):=by
   rw[List.take_add_one,hx,digN,List.foldl_append];rfl
  repeat'(first|(simp -implicitDefEqProofs only[*,List.getElem?_map,Option.map_some,encU,zr,Nat.reduceAdd,Nat.reduceSub,Nat.reduceMul,Nat.reduceLT,Nat.reduceLeDiff,Nat.reduceEqDiff,Nat.reduceBEq,reduceIte,reduceCtorEq,Int.reduceLE,Int.reduceLT,Int.reduceToNat,Int.reduceEq,Int.reduceNe])|(apply zk<;>intro hc)|(refine zp ?_)|(refine zd ?_)|fail)
  refine⟨s+1,hlt,by omega,?_⟩
  rw[hs2]
  refine wk_i ?_ ?_<;>simp only[zw,Nat.reduceEqDiff,Nat.reduceBEq,Nat.reduceLT,Nat.reduceLeDiff,reduceIte,reduceCtorEq]
 obtain rfl:s=b.length:=by omega
 have h2:=lt_f hge
 have h3:=List.take_length (l:=b)
 have hV:digV b=⟨(YX (digN b) 16).1.toArray⟩:=rfl
 obtain⟨N,hN⟩:∃ N,digN b=N:=⟨_,rfl⟩
 rw[hV,hN]
 clear hV
 have k0:((16:Int)*((1:Nat):Int)≤140737488355328)=True:=eq_true (by decide)
 repeat'(first|(simp -implicitDefEqProofs only[*,zr,Nat.reduceAdd,Nat.reduceSub,Nat.reduceMul,Nat.reduceLT,Nat.reduceLeDiff,Nat.reduceEqDiff,Nat.reduceBEq,reduceIte,reduceCtorEq,Int.reduceLE,Int.reduceLT,Int.reduceToNat,Int.reduceEq,Int.reduceNe])|(apply zk<;>intro hc)|(refine zp ?_)|(refine zd ?_)|fail)
 clear hge h2 h3 hs
 refine QK (S:=Nat) 38 [6,22] [] (fun s=>[(3,.f (.int .u64 (YX N s).2)),(23,.f (.int .i64 s))]) (fun s=>[(20,1,(rowF encU (YX N s).1).map AV.f)]) (fun s=>s≤16) (fun s=>16 - s) (0) [] ?_ ?_ fun s hs=> ?_
 ·exact Nat.zero_le _
 ·refine wk_i ?_ ?_<;>simp only[YX,zw,Nat.reduceEqDiff,Nat.reduceBEq,Nat.reduceLT,Nat.reduceLeDiff,reduceIte,reduceCtorEq]
  exact SlotsOk.of_eq (by rfl)
 refine zrs ?_
 have hln:=YI N s
 rcases Nat.lt_or_ge s 16 with hlt|hge
 ·have hst:YX N (s+1)=((YX N s).1.set (15 - s) (hexL.getD (Zj (YX N s).2 15).toNat 0),QBR (YX N s).2):=rfl
  generalize YX N s=t at hst hln ⊢
  obtain⟨l,m⟩:=t
  simp only at hst hln ⊢
  have h4:=XU hlt (by decide)
  have h2:decide ((s:Int)<((16:Nat):Int))=true:=by rw[decide_eq_true_eq];omega
  have hw:IntKind.i64.wrap (15 - (s:Int))=((15 - s:Nat):Int):=by rw[QR]<;>omega
  obtain⟨q1,q2⟩:=and15 m
  have hx:(#[48,49,50,51,52,53,54,55,56,57,97,98,99,100,101,102]:Array UInt8).toList[(Zj m 15).toNat]? = some (hexL.getD (Zj m 15).toNat 0):=hex_at ⟨q1,q2⟩
  have hA:IntKind.u64.wrap ((BitVec.ofInt IntKind.u64.bits m &&&BitVec.ofInt IntKind.u64.bits 15).toNat:Nat)=Zj m 15:=rfl
  have hD:m.fdiv (2 ^ min 4 IntKind.u64.bits)=QBR m:=rfl
  generalize Zj m 15=i at*
  generalize hexL.getD i.toNat 0=c at*
  generalize QBR m=m' at*
  have q3:(0≤i)=True:=by rw[eq_iff_iff,iff_true];exact q1
  have k1:((15 - s:Nat)<16)=True:=by rw[eq_iff_iff,iff_true];omega
  have hin:=XL (enc:=encU) (sz:=1) (l:=l) (i:=15 - s) (fun _=>rfl) (by omega)
  have hset:=ZS (enc:=encU) (sz:=1) (l:=l) (i:=15 - s) (x:=c) (fun _=>rfl) (by omega)
  simp only[encU,List.map_cons,List.map_nil,splice,Nat.mul_one]at hset
  have hS:=hst
  clear hst
  clear q1 q2
  have k5:(rowF encU l).length=16:=by rw[QD (sz:=1) (fun _=>rfl),hln]
  rw[List.length_map,k5]at hin
  have k6:(15 - s≤15)=True:=by rw[eq_iff_iff,iff_true];omega
  clear hln
  repeat'(first|(simp -implicitDefEqProofs only[*,zr,Nat.reduceAdd,Nat.reduceSub,Nat.reduceMul,Nat.reduceLT,Nat.reduceLeDiff,Nat.reduceEqDiff,Nat.reduceBEq,reduceIte,reduceCtorEq,Int.reduceLE,Int.reduceLT,Int.reduceToNat,Int.reduceEq,Int.reduceNe])|(apply zk<;>intro hc)|(refine zp ?_)|(refine zd ?_)|fail)
  refine⟨s+1,hlt,by omega,?_⟩
  rw[hS]
  refine wk_i ?_ ?_<;>simp only[zw,Nat.reduceEqDiff,Nat.reduceBEq,Nat.reduceLT,Nat.reduceLeDiff,reduceIte,reduceCtorEq]
 ·obtain rfl:s=16:=by omega
  have h2:decide (((16:Nat):Int)<((16:Nat):Int))=false:=by decide
  generalize YX N 16=t at hln ⊢
  obtain⟨l,m⟩:=t
  simp only at hln ⊢
  have k2:((16:Nat)≤(rowF encU l).length)=True:=by rw[eq_iff_iff,iff_true,QD (sz:=1) (fun _=>rfl),hln];exact Nat.le_refl _
  have k3:(List.map AV.f (rowF encU l)).take 16=List.map AV.f (rowF encU l):=List.take_of_length_le (by rw[List.length_map,QD (sz:=1) (fun _=>rfl),hln];exact Nat.le_refl _)
  have k4:Jc (List.map AV.f (rowF encU l))=some l:=QDp l
  clear hln
  repeat'(first|(simp -implicitDefEqProofs only[*,zr,Nat.reduceAdd,Nat.reduceSub,Nat.reduceMul,Nat.reduceLT,Nat.reduceLeDiff,Nat.reduceEqDiff,Nat.reduceBEq,reduceIte,reduceCtorEq,Int.reduceLE,Int.reduceLT,Int.reduceToNat,Int.reduceEq,Int.reduceNe])|(apply zk<;>intro hc)|(refine zp ?_)|(refine zd ?_)|fail)
  exact Xp rfl
end Go.Proofs.YtjfchihkhpinmaaGreatDoor
