/-
  slices.Clone, Insert, Delete at objects and parts. No statement of the seat is proved here; no conditions.
-/
import Derived.Test.YtjfchihkhpinmaaGreatDoorOrd
import Derived.Test.YtjfchihkhpinmaaGreatDoorWr1
namespace Go.Proofs.YtjfchihkhpinmaaGreatDoor
open Go.RowKit Go.Shelf
set_option linter.unusedVariables false
set_option linter.unusedSimpArgs false
set_option maxRecDepth 100000

set_option maxHeartbeats 1000000
theorem Kv (l:List Ob) (hl:l.length≤1000000):FRet Tryz.prog 48 [.f (.fr 2 (l.map fOb))] [.c (.own 2 l.length (rowF fOb l))]:=by
 refine FCall.of_ax Vz ?_
 dsimp only[jm,ji,jf,jl,jL,jn,je,jx,jT,jC,jB,jq,jt,ju,jA,km,kf,kl,kn,kx,VS]
 refine zrs ?_
 have h1:(l.length*40≤140737488355328)=True:=by rw[eq_iff_iff,iff_true];omega
 rcases Nat.eq_zero_or_pos l.length with h0|h0
 ·obtain rfl:=List.eq_nil_of_length_eq_zero h0
  repeat'(first|(simp -implicitDefEqProofs only[*,condS_bit,List.flatten_nil,List.map_nil,zr,seval,reduceIte,reduceCtorEq])|(apply zk<;>intro hc)|(refine zp ?_)|(refine zd ?_)|fail)
  refine⟨?_,?_⟩
  ·repeat'(first|(simp -implicitDefEqProofs only[*,List.flatten_nil,List.map_nil,zr,seval,reduceIte,reduceCtorEq])|(apply zk<;>intro hc)|(refine zp ?_)|(refine zd ?_)|fail)
   exact QAj rfl rfl
  ·repeat'(first|(simp -implicitDefEqProofs only[*,List.flatten_nil,List.map_nil,zr,seval,reduceIte,reduceCtorEq])|(apply zk<;>intro hc)|(refine zp ?_)|(refine zd ?_)|fail)
   exact KV rfl (by simp)
 ·have h0':(l.length=0)=False:=by rw[eq_iff_iff,iff_false];omega
  clear h0
  repeat'(first|(simp -implicitDefEqProofs only[*,zr,seval,reduceIte,reduceCtorEq])|(apply zk<;>intro hc)|(refine zp ?_)|(refine zd ?_)|fail)
  exact KV (by simp [cellsOf,H0,rowF]) (by rw[QD (sz:=2) (fun _=>rfl)];omega)

theorem Ku (l:List Pt) (hl:l.length≤1000000):FRet Tryz.prog 49 [.f (.fr 3 (l.map fPt))] [.c (.own 3 l.length (rowF fPt l))]:=by
 refine FCall.of_ax Vq ?_
 dsimp only[jm,ji,jf,jl,jL,jn,je,jx,jT,jC,jB,jq,jt,ju,jA,km,kf,kl,kn,kx,VI]
 refine zrs ?_
 have h1:(l.length*48≤140737488355328)=True:=by rw[eq_iff_iff,iff_true];omega
 rcases Nat.eq_zero_or_pos l.length with h0|h0
 ·obtain rfl:=List.eq_nil_of_length_eq_zero h0
  repeat'(first|(simp -implicitDefEqProofs only[*,condS_bit,List.flatten_nil,List.map_nil,zr,seval,reduceIte,reduceCtorEq])|(apply zk<;>intro hc)|(refine zp ?_)|(refine zd ?_)|fail)
  refine⟨?_,?_⟩
  ·repeat'(first|(simp -implicitDefEqProofs only[*,List.flatten_nil,List.map_nil,zr,seval,reduceIte,reduceCtorEq])|(apply zk<;>intro hc)|(refine zp ?_)|(refine zd ?_)|fail)
   exact QAj rfl rfl
  ·repeat'(first|(simp -implicitDefEqProofs only[*,List.flatten_nil,List.map_nil,zr,seval,reduceIte,reduceCtorEq])|(apply zk<;>intro hc)|(refine zp ?_)|(refine zd ?_)|fail)
   exact KV rfl (by simp)
 ·have h0':(l.length=0)=False:=by rw[eq_iff_iff,iff_false];omega
  clear h0
  repeat'(first|(simp -implicitDefEqProofs only[*,zr,seval,reduceIte,reduceCtorEq])|(apply zk<;>intro hc)|(refine zp ?_)|(refine zd ?_)|fail)
  exact KV (by simp [cellsOf,H0,rowF]) (by rw[QD (sz:=3) (fun _=>rfl)];omega)

theorem QC6 (l:List UInt8) (hl:l.length≤100000000):FRet Tryz.prog 50 [.f (.fr 1 (l.map encU))] [.c (.own 1 l.length (rowF encU l))]:=by
 refine FCall.of_ax Yn ?_
 dsimp only[jm,ji,jf,jl,jL,jn,je,jx,jT,jC,jB,jq,jt,ju,jA,km,kf,kl,kn,kx,XW]
 refine zrs ?_
 have h1:(l.length*1≤140737488355328)=True:=by rw[eq_iff_iff,iff_true];omega
 have h1b:(l.length≤140737488355328)=True:=by rw[eq_iff_iff,iff_true];omega
 rcases Nat.eq_zero_or_pos l.length with h0|h0
 ·obtain rfl:=List.eq_nil_of_length_eq_zero h0
  repeat'(first|(simp -implicitDefEqProofs only[*,condS_bit,List.flatten_nil,List.map_nil,zr,seval,reduceIte,reduceCtorEq])|(apply zk<;>intro hc)|(refine zp ?_)|(refine zd ?_)|fail)
  refine⟨?_,?_⟩
  ·repeat'(first|(simp -implicitDefEqProofs only[*,List.flatten_nil,List.map_nil,zr,seval,reduceIte,reduceCtorEq])|(apply zk<;>intro hc)|(refine zp ?_)|(refine zd ?_)|fail)
   exact QAj rfl rfl
  ·repeat'(first|(simp -implicitDefEqProofs only[*,List.flatten_nil,List.map_nil,zr,seval,reduceIte,reduceCtorEq])|(apply zk<;>intro hc)|(refine zp ?_)|(refine zd ?_)|fail)
   exact KV rfl (by simp)
 ·have h0':(l.length=0)=False:=by rw[eq_iff_iff,iff_false];omega
  clear h0
  repeat'(first|(simp -implicitDefEqProofs only[*,zr,seval,reduceIte,reduceCtorEq])|(apply zk<;>intro hc)|(refine zp ?_)|(refine zd ?_)|fail)
  exact KV (by simp [cellsOf,H0,rowF]) (by rw[QD (sz:=1) (fun _=>rfl)];omega)

theorem QBU (en:List Pt) (i j:Nat) (hij:i<j) (hj:j≤en.length) (hn:en.length≤1000000) :
  FRetM Tryz.prog 109 [.c (.own 3 en.length (rowF fPt en)),.c (.v (.int .i64 i)),.c (.v (.int .i64 j))] []
   [.c (.own 3 (i+(en.length - j)) (rowF fPt (en.take i++en.drop j)++(List.replicate (j - i) [FV.str ⟨#[]⟩,FV.int .i64 0,FV.nil]).flatten))]:=by
 refine FCall.of_ax Vo ?_
 dsimp only[jm,ji,jf,jl,jL,jn,je,jx,jT,jC,jB,jq,jt,ju,jA,km,kf,kl,kn,kx,VG]
 have d0:decide ((i:Int)=(j:Int))=false:=dcF (by omega)
 refine QP 11 _ _ _ _ ?_
 simp -implicitDefEqProofs only[zr,Nat.reduceAdd,Nat.reduceSub,Nat.reduceMul,Nat.reduceLT,Nat.reduceLeDiff,Nat.reduceEqDiff,Nat.reduceBEq,reduceIte,reduceCtorEq,Int.reduceLE,Int.reduceLT,Int.reduceToNat,Int.reduceEq,Int.reduceNe]
 refine ax_slice3 (.inl rfl) rfl rfl rfl (Nat.le_of_lt hij) hj (Nat.le_refl _) ?_
 refine QP 16 _ _ _ _ ?_
 simp -implicitDefEqProofs only[d0,zr,Nat.reduceAdd,Nat.reduceSub,Nat.reduceMul,Nat.reduceLT,Nat.reduceLeDiff,Nat.reduceEqDiff,Nat.reduceBEq,reduceIte,reduceCtorEq,Int.reduceLE,Int.reduceLT,Int.reduceToNat,Int.reduceEq,Int.reduceNe]
 refine ax_slc trivial 0 rfl (by omega) rfl fun c hc1 hc2=> ?_
 refine QP 4 _ _ _ _ ?_
 simp -implicitDefEqProofs only[zr,Nat.reduceAdd,Nat.reduceSub,Nat.reduceMul,Nat.reduceLT,Nat.reduceLeDiff,Nat.reduceEqDiff,Nat.reduceBEq,reduceIte,reduceCtorEq,Int.reduceLE,Int.reduceLT,Int.reduceToNat,Int.reduceEq,Int.reduceNe]
 refine ax_dslC 0 i rfl (Nat.zero_le _) (by omega) rfl ⟨_,rfl⟩ ?_
 rw[if_pos (show 0<c by omega)]
 refine QP 2 _ _ _ _ ?_
 simp -implicitDefEqProofs only[zr,Nat.reduceAdd,Nat.reduceSub,Nat.reduceMul,Nat.reduceLT,Nat.reduceLeDiff,Nat.reduceEqDiff,Nat.reduceBEq,reduceIte,reduceCtorEq,Int.reduceLE,Int.reduceLT,Int.reduceToNat,Int.reduceEq,Int.reduceNe]
 refine ax_dslC j en.length rfl hj hc1 ⟨_,rfl⟩ rfl ?_
 simp only[Nat.zero_add,Nat.sub_zero]
 refine ax_dappC (id:=80000) (ver:=1) (off:=0) (n:=i) (c:=c) (off2:=j) (m:=en.length - j) rfl ?_ rfl (by omega) ?_ ?_ ?_
 ·show SlOf (if j<c then AV.slc 80000 1 3 j (en.length - j) (c - j)else AV.sl 80000 1 3 j 0) _ _ _ _ _
  exact slOf_ifz (fun h=>by omega)
 ·rw[List.length_map,QD (sz:=3) (fun _=>rfl)]
  exact Nat.mul_le_mul_right _ (by omega)
 ·rw[List.length_map,QD (sz:=3) (fun _=>rfl)]
  exact Nat.mul_le_mul_right _ (by omega)
 rw[Nat.zero_add,row_del (sz:=3) (fun _=>rfl) en (Nat.le_of_lt hij) hj]
 obtain⟨M,hM⟩:∃ M,en.take i++en.drop j=M:=⟨_,rfl⟩
 obtain⟨r,hr⟩:∃ r,(rowF fPt en).drop ((i+(en.length - j))*3)=r:=⟨_,rfl⟩
 have hml:i+(en.length - j)=M.length:=by rw[← hM,List.length_append,List.length_take,List.length_drop];omega
 have hrl:r.length=(j - i)*3:=by rw[← hr,List.length_drop,QD (sz:=3) (fun _=>rfl),← Nat.sub_mul];congr 1;omega
 rw[hM,hr,hml]
 replace hM:=hide hM
 replace hr:=hide hr
 refine QP 6 _ _ _ _ ?_
 simp -implicitDefEqProofs only[zr,Nat.reduceAdd,Nat.reduceSub,Nat.reduceMul,Nat.reduceLT,Nat.reduceLeDiff,Nat.reduceEqDiff,Nat.reduceBEq,reduceIte,reduceCtorEq,Int.reduceLE,Int.reduceLT,Int.reduceToNat,Int.reduceEq,Int.reduceNe]
 refine QCI trivial 28 rfl ?_
 refine QP 2 _ _ _ _ ?_
 simp -implicitDefEqProofs only[zr,Nat.reduceAdd,Nat.reduceSub,Nat.reduceMul,Nat.reduceLT,Nat.reduceLeDiff,Nat.reduceEqDiff,Nat.reduceBEq,reduceIte,reduceCtorEq,Int.reduceLE,Int.reduceLT,Int.reduceToNat,Int.reduceEq,Int.reduceNe]
 have hle:M.length<en.length:=by omega
 refine QBh M.length en.length rfl (Nat.le_of_lt hle) hc1 ⟨_,rfl⟩ ⟨_,rfl⟩ ?_
 rw[if_pos (show M.length<c by omega)]
 simp only[Nat.zero_add]
 refine QCI trivial 31 rfl ?_
 refine QCI trivial 0 rfl ?_
 have e3:en.length - M.length=j - i:=by omega
 have e4:((M.length+(j - i))*3≤(rowF fPt M++r).length)=True:=by rw[eq_iff_iff,iff_true,List.length_append,QD (sz:=3) (fun _=>rfl),hrl];omega
 have e5:=row_clr (enc:=fPt) (sz:=3) (fun _=>rfl) M r [FV.str ⟨#[]⟩,FV.int .i64 0,FV.nil] (j - i) hrl rfl
 rw[e3]
 refine zrs ?_
 simp -implicitDefEqProofs only[e4,e5,zr,Nat.reduceAdd,Nat.reduceSub,Nat.reduceMul,Nat.reduceLT,Nat.reduceLeDiff,Nat.reduceEqDiff,Nat.reduceBEq,reduceIte,reduceCtorEq,Int.reduceLE,Int.reduceLT,Int.reduceToNat,Int.reduceEq,Int.reduceNe]
 exact⟨[.sl 80000 1 3 0 M.length],rfl,⟨.inr ⟨80000,1,rfl,rfl,by rw[List.length_append,QD (sz:=3) (fun _=>rfl)];exact Nat.le_add_right _ _⟩,rfl⟩,by simp [idsS]⟩

theorem ovO:OvOk Tryz.prog 143:=
 ⟨(Tryz.prog.funcs[143]?).getD default,24,4,37,2,by kernel_rfl,by kernel_rfl,by kernel_rfl,by kernel_rfl,by kernel_rfl,by kernel_rfl,by kernel_rfl⟩
theorem insertO_f (bl:List Ob) (i:Nat) (b:Ob) (hi:i≤bl.length) (hn:bl.length≤1000000) :
  FRetM Tryz.prog 129 [.c (.own 2 bl.length (rowF fOb bl)),.c (.v (.int .i64 i)),.c (.own 2 1 (fOb b))] []
   [.c (.own 2 (bl.length+1) (rowF fOb (bl.take i++b::bl.drop i)))]:=by
 refine FCall.of_ax Vu ?_
 dsimp only[jm,ji,jf,jl,jL,jn,je,jx,jT,jC,jB,jq,jt,ju,jA,km,kf,kl,kn,kx,VN]
 have h48:((bl.length+1)*40≤140737488355328)=True:=by rw[eq_iff_iff,iff_true];omega
 have hrl:(rowF fOb bl).length=bl.length*2:=QD (sz:=2) (fun _=>rfl)
 rcases Nat.eq_or_lt_of_le hi with rfl|hlt
 ·have d0:decide ((bl.length:Int)=(bl.length:Int))=true:=dcT rfl
  have g1:((bl.length:Int)≤(bl.length:Int))=True:=by rw[eq_iff_iff,iff_true];exact Int.le_refl _
  have d1:decide (((1:Nat):Int)=0)=false:=by decide
  refine zrs ?_
  simp -implicitDefEqProofs only[d0,d1,g1,h48,hrl,fOb,zr,Nat.reduceAdd,Nat.reduceSub,Nat.reduceMul,Nat.reduceLT,Nat.reduceLeDiff,Nat.reduceEqDiff,Nat.reduceBEq,reduceIte,reduceCtorEq,Int.reduceLE,Int.reduceLT,Int.reduceToNat,Int.reduceEq,Int.reduceNe]
  have e1:rowF fOb (bl.take bl.length++b::bl.drop bl.length)=rowF fOb bl++fOb b:=by rw[List.take_length,List.drop_length];exact Vy
  rw[e1]
  exact⟨[.sl 80000 2 2 0 (bl.length+1)],rfl,⟨.inr ⟨80000,2,rfl,by rw[List.map_append];rfl,by rw[List.length_append,hrl];simp [fOb];omega⟩,rfl⟩,by simp [idsS]⟩
 ·have d0:decide ((i:Int)=(bl.length:Int))=false:=dcF (by omega)
  have g1:((i:Int)≤(bl.length:Int))=True:=by rw[eq_iff_iff,iff_true];omega
  have d1:decide (((1:Nat):Int)=0)=false:=by decide
  have g2:((bl.length:Int)≤(bl.length:Int))=True:=by rw[eq_iff_iff,iff_true];omega
  refine QP 37 _ _ _ _ ?_
  simp -implicitDefEqProofs only[d0,d1,g1,g2,zr,Nat.reduceAdd,Nat.reduceSub,Nat.reduceMul,Nat.reduceLT,Nat.reduceLeDiff,Nat.reduceEqDiff,Nat.reduceBEq,reduceIte,reduceCtorEq,Int.reduceLE,Int.reduceLT,Int.reduceToNat,Int.reduceEq,Int.reduceNe]
  refine ax_slc trivial 0 rfl (by omega) rfl fun c hc1 hc2=> ?_
  have hw:IntKind.i64.wrap ((bl.length:Int)+((1:Nat):Int))=((bl.length+1:Nat):Int):=by rw[QR]<;>omega
  refine zrs ?_
  simp -implicitDefEqProofs only[hw,zr,Nat.reduceAdd,Nat.reduceSub,Nat.reduceMul,Nat.reduceLT,Nat.reduceLeDiff,Nat.reduceEqDiff,Nat.reduceBEq,reduceIte,reduceCtorEq,Int.reduceLE,Int.reduceLT,Int.reduceToNat,Int.reduceEq,Int.reduceNe]
  refine ax_capC rfl rfl ?_
  rcases Nat.lt_or_ge c (bl.length+1)with hgc|hgc
  ·have dc:decide (c<bl.length+1)=true:=decide_eq_true hgc
   have hw2:IntKind.i64.wrap (((bl.length+1:Nat):Int) - (i:Int))=((bl.length+1 - i:Nat):Int):=by rw[QR]<;>omega
   have hw3:IntKind.i64.wrap ((i:Int)+((1:Nat):Int))=((i+1:Nat):Int):=by rw[QR]<;>omega
   have e0:i+(bl.length+1 - i)=bl.length+1:=by omega
   refine QP 7 _ _ _ _ ?_
   simp -implicitDefEqProofs only[dc,zr,Nat.reduceAdd,Nat.reduceSub,Nat.reduceMul,Nat.reduceLT,Nat.reduceLeDiff,Nat.reduceEqDiff,Nat.reduceBEq,reduceIte,reduceCtorEq,Int.reduceLE,Int.reduceLT,Int.reduceToNat,Int.reduceEq,Int.reduceNe]
   refine QBh 0 i rfl (Nat.zero_le _) (by omega) rfl ⟨_,rfl⟩ ?_
   rw[if_pos (show 0<c by omega)]
   simp only[Nat.zero_add,Nat.sub_zero]
   refine QP 5 _ _ _ _ ?_
   simp -implicitDefEqProofs only[hw,hw2,zr,Nat.reduceAdd,Nat.reduceSub,Nat.reduceMul,Nat.reduceLT,Nat.reduceLeDiff,Nat.reduceEqDiff,Nat.reduceBEq,reduceIte,reduceCtorEq,Int.reduceLE,Int.reduceLT,Int.reduceToNat,Int.reduceEq,Int.reduceNe]
   refine ax_appN (n:=i) (m:=bl.length+1 - i) 40 0 rfl rfl rfl (by omega) (by omega) (by rw[List.length_map,hrl];omega) (by omega) rfl ?_
   rw[e0]
   refine QCI trivial 0 rfl ?_
   simp only[Nat.zero_mul,List.drop_zero]
   have g3:((i:Int)≤((bl.length+1:Nat):Int))=True:=by rw[eq_iff_iff,iff_true];omega
   have g4:(((bl.length+1:Nat):Int)≤((bl.length+1:Nat):Int))=True:=by rw[eq_iff_iff,iff_true];omega
   have g5:(((i+1:Nat):Int)≤((bl.length+1:Nat):Int))=True:=by rw[eq_iff_iff,iff_true];omega
   have m1:min 1 (bl.length+1 - i)=1:=by omega
   have m2:min (bl.length - i) (bl.length+1 - (i+1))=bl.length - i:=by omega
   have hzl:(Qd (bl.length+1 - i) [FV.str ⟨#[]⟩,FV.nil]).length=(bl.length+1 - i)*2:=by
    rw[Qd,List.length_map,Qn (sz:=2) _ (fun y hy=>by rw[List.eq_of_mem_replicate hy];rfl),List.length_replicate]
   obtain⟨Zs,hZ⟩:∃ Zs,Qd (bl.length+1 - i) [FV.str ⟨#[]⟩,FV.nil]=Zs:=⟨_,rfl⟩
   rw[hZ]at hzl ⊢
   rw[← List.map_take,Jg (sz:=2) (fun _=>rfl)]
   have hAl:(rowF fOb (bl.take i)).length=i*2:=by rw[QD (sz:=2) (fun _=>rfl),List.length_take];congr 1;omega
   have e1:splice ((rowF fOb (bl.take i)).map AV.f++Zs) (i*2) ((fOb b).map AV.f)=(rowF fOb (bl.take i)++fOb b).map AV.f++Zs.drop 2:=row_in1 (sz:=2) (fun _=>rfl) bl b hi Zs (by omega)
   have e2:splice ((rowF fOb (bl.take i)++fOb b).map AV.f++Zs.drop 2) ((i+1)*2) ((((rowF fOb bl).map AV.f).drop (i*2)).take ((bl.length - i)*2))=(rowF fOb (bl.take i++b::bl.drop i)).map AV.f:=row_in2 (sz:=2) (fun _=>rfl) bl b hi _ (by rw[List.length_drop,hzl];omega)
   have c1:((i+1)*2≤((rowF fOb (bl.take i)).map AV.f++Zs).length)=True:=by
    rw[eq_iff_iff,iff_true,List.length_append,List.length_map,hAl,hzl];omega
   have c2:((i+1+(bl.length - i))*2≤((rowF fOb (bl.take i)++fOb b).map AV.f++Zs.drop 2).length)=True:=by
    rw[eq_iff_iff,iff_true,List.length_append,List.length_map,List.length_append,hAl,List.length_drop,hzl];simp [fOb];omega
   have c3:((i+(bl.length - i))*2≤bl.length*2)=True:=by rw[eq_iff_iff,iff_true];omega
   have c4:((fOb b).map AV.f).take 2=(fOb b).map AV.f:=rfl
   have c5:(fOb b).length=2:=rfl
   refine zrs ?_
   simp -implicitDefEqProofs only[hw3,g1,g2,g3,g4,g5,m1,m2,e1,e2,c1,c2,c3,c4,c5,hrl,Nat.one_mul,List.drop_zero,List.length_map,zr,Nat.reduceAdd,Nat.reduceSub,Nat.reduceMul,Nat.reduceLT,Nat.reduceLeDiff,Nat.reduceEqDiff,Nat.reduceBEq,reduceIte,reduceCtorEq,Int.reduceLE,Int.reduceLT,Int.reduceToNat,Int.reduceEq,Int.reduceNe]
   have hfl:(rowF fOb (bl.take i++b::bl.drop i)).length=(bl.length+1)*2:=by rw[QD (sz:=2) (fun _=>rfl)];simp;omega
   exact⟨[.sl 40 1 2 0 (bl.length+1)],rfl,⟨.inr ⟨40,1,rfl,rfl,by rw[hfl];exact Nat.le_refl _⟩,rfl⟩,by simp [idsS]⟩
  ·have dc:decide (c<bl.length+1)=false:=decide_eq_false (by omega)
   refine QP 10 _ _ _ _ ?_
   simp -implicitDefEqProofs only[dc,hw,zr,Nat.reduceAdd,Nat.reduceSub,Nat.reduceMul,Nat.reduceLT,Nat.reduceLeDiff,Nat.reduceEqDiff,Nat.reduceBEq,reduceIte,reduceCtorEq,Int.reduceLE,Int.reduceLT,Int.reduceToNat,Int.reduceEq,Int.reduceNe]
   refine QBh 0 (bl.length+1) rfl (Nat.zero_le _) hgc rfl ⟨_,rfl⟩ ?_
   rw[if_pos (show 0<c by omega)]
   simp only[Nat.zero_add,Nat.sub_zero]
   refine ax_wide trivial 60 ((bl.length+1)*2) rfl rfl (by omega) ?_
   refine QCI trivial 60 rfl ?_
   rw[List.length_map,hrl,show(bl.length+1)*2 - bl.length*2=2 by omega]
   obtain⟨Y,hY⟩:∃ Y,List.replicate 2 AV.any=Y:=⟨_,rfl⟩
   have hYl:Y.length=2:=by rw[← hY];rfl
   rw[hY]
   have hw3:IntKind.i64.wrap ((i:Int)+((1:Nat):Int))=((i+1:Nat):Int):=by rw[QR]<;>omega
   have g3:((i:Int)≤((bl.length+1:Nat):Int))=True:=by rw[eq_iff_iff,iff_true];omega
   have g4:(((bl.length+1:Nat):Int)≤((bl.length+1:Nat):Int))=True:=by rw[eq_iff_iff,iff_true];omega
   have g5:(((i+1:Nat):Int)≤((bl.length+1:Nat):Int))=True:=by rw[eq_iff_iff,iff_true];omega
   refine zrs ?_
   simp -implicitDefEqProofs only[hw3,g1,g2,g3,g4,g5,zr,Nat.reduceAdd,Nat.reduceSub,Nat.reduceMul,Nat.reduceLT,Nat.reduceLeDiff,Nat.reduceEqDiff,Nat.reduceBEq,reduceIte,reduceCtorEq,Int.reduceLE,Int.reduceLT,Int.reduceToNat,Int.reduceEq,Int.reduceNe]
   obtain⟨_,_,_,_,_,k1,k2,k3,k4,k5,k6,k7⟩:=ovO
   refine QDE k1 k2 k3 k4 k5 k6 k7 (.inl rfl) (.inl rfl) (by decide) (by omega) (by omega) (by omega) ?_
   obtain⟨X,hX⟩:∃ X,((((rowF fOb bl).map AV.f++Y).drop (i*2)).take 2)=X:=⟨_,rfl⟩
   have hXl:X.length=2:=by rw[← hX,List.length_take,List.length_drop,List.length_append,List.length_map,hrl,hYl];omega
   have e1:=row_up (enc:=fOb) (sz:=2) (fun _=>rfl) bl hi Y hYl
   rw[hX]at e1
   have e2:=row_in3 (enc:=fOb) (sz:=2) (fun _=>rfl) bl b hi X hXl
   have hAl:(rowF fOb (bl.take i)).length=i*2:=by rw[QD (sz:=2) (fun _=>rfl),List.length_take];congr 1;omega
   have hDl:(rowF fOb (bl.drop i)).length=(bl.length - i)*2:=by rw[QD (sz:=2) (fun _=>rfl),List.length_drop]
   have m1:min 1 (bl.length+1 - i)=1:=by omega
   have m2:min (bl.length+1 - i) (bl.length+1 - (i+1))=bl.length - i:=by omega
   have c1:((i+1+(bl.length - i))*2≤((rowF fOb bl).map AV.f++Y).length)=True:=by
    rw[eq_iff_iff,iff_true,List.length_append,List.length_map,hrl,hYl];omega
   have c2:((i+(bl.length - i))*2≤((rowF fOb bl).map AV.f++Y).length)=True:=by
    rw[eq_iff_iff,iff_true,List.length_append,List.length_map,hrl,hYl];omega
   have c3:((i+1)*2≤((rowF fOb (bl.take i)).map AV.f++(X++(rowF fOb (bl.drop i)).map AV.f)).length)=True:=by
    rw[eq_iff_iff,iff_true,List.length_append,List.length_append,List.length_map,List.length_map,hAl,hDl,hXl];omega
   have c4:((fOb b).map AV.f).take 2=(fOb b).map AV.f:=rfl
   have c5:(fOb b).length=2:=rfl
   refine zrs ?_
   simp -implicitDefEqProofs only[hw3,g1,g2,g3,g4,g5,m1,m2,e1,e2,c1,c2,c3,c4,c5,Nat.one_mul,List.drop_zero,List.length_map,zr,Nat.reduceAdd,Nat.reduceSub,Nat.reduceMul,Nat.reduceLT,Nat.reduceLeDiff,Nat.reduceEqDiff,Nat.reduceBEq,reduceIte,reduceCtorEq,Int.reduceLE,Int.reduceLT,Int.reduceToNat,Int.reduceEq,Int.reduceNe]
   have hfl:(rowF fOb (bl.take i++b::bl.drop i)).length=(bl.length+1)*2:=by rw[QD (sz:=2) (fun _=>rfl)];simp;omega
   exact⟨[.sl 80000 1 2 0 (bl.length+1)],rfl,⟨.inr ⟨80000,1,rfl,rfl,by rw[hfl];exact Nat.le_refl _⟩,rfl⟩,by simp [idsS]⟩
theorem ovP:OvOk Tryz.prog 130:=
 ⟨(Tryz.prog.funcs[130]?).getD default,30,4,100,3,by kernel_rfl,by kernel_rfl,by kernel_rfl,by kernel_rfl,by kernel_rfl,by kernel_rfl,by kernel_rfl⟩
end Go.Proofs.YtjfchihkhpinmaaGreatDoor
