/-
  The document's digest of bytes is the program's. No statement of the seat is proved here; no conditions.
-/
import Derived.Test.YtjfchihkhpinmaaGreatDoorMsP
namespace Go.Proofs.YtjfchihkhpinmaaGreatDoor
open Go.RowKit Go.Shelf
set_option linter.unusedVariables false
set_option linter.unusedSimpArgs false
set_option maxRecDepth 100000

def QDe (N:Int) (k:Nat):UInt8:=hexL.getD (N / 16 ^ k % 16).toNat 0
theorem and15_mod {m:Int}(h0:0≤m) (h1:m<18446744073709551616):Zj m 15=m % 16:=by
 unfold Zj
 have e:(BitVec.ofInt IntKind.u64.bits m &&&BitVec.ofInt IntKind.u64.bits 15).toNat=m.toNat % 16:=by
  rw[BitVec.toNat_and,BitVec.toNat_ofInt,BitVec.toNat_ofInt]
  show(m % ((2 ^ 64:Nat):Int)).toNat &&&(2 ^ 4 - 1)=_
  rw[Nat.and_two_pow_sub_one_eq_mod,Int.emod_eq_of_lt h0 (by simpa using h1)]
 rw[e,IntKind.wrap_u64]
 omega
theorem digN_bd (b:List UInt8):0≤digN b∧digN b<18446744073709551616:=by
 have step:∀ (l:List UInt8) (n:Int),(0≤n∧n<18446744073709551616)→0≤l.foldl QC2 n∧l.foldl QC2 n<18446744073709551616:=fun l=>by
  induction l with
  | nil=>exact fun n h=>h
  | cons x l ih=>
   intro n h
   rw[List.foldl_cons]
   refine ih _ ?_
   unfold QC2
   generalize (u64xor n (IntKind.u64.wrap ↑x.toNat)*1099511628211)=y
   rw[IntKind.wrap_u64]
   omega
 exact step b _ (by decide)
theorem QBP {N:Int}(h0:0≤N) (h1:N<18446744073709551616):∀ s,s≤16→(YX N s).2=N / 16 ^ s∧∀ k,k<s→(YX N s).1[15 - k]? = some (QDe N k)
 | 0,_=>⟨by simp [YX],fun k h=>absurd h (by omega)⟩
 | s+1,hs=>by
  obtain⟨i1,i2⟩:=QBP h0 h1 s (by omega)
  have hl:=YI N s
  have hp:(0:Int)<16 ^ s:=Int.pow_pos (by decide)
  have hb0:0≤N / 16 ^ s:=Int.ediv_nonneg h0 (by omega)
  have hb1:N / 16 ^ s<18446744073709551616:=Int.lt_of_le_of_lt (Int.ediv_le_self _ h0) h1
  rw[YX]
  dsimp only
  refine⟨?_,fun k hk=> ?_⟩
  ·rw[i1]
   unfold QBR
   show(N / 16 ^ s).fdiv (2 ^ 4)=_
   rw[Int.fdiv_eq_ediv_of_nonneg _ (by decide),Int.pow_succ,Int.ediv_ediv_of_nonneg (by omega)]
   rfl
  ·rw[i1,and15_mod hb0 hb1]
   by_cases e:15 - s=15 - k
   ·have:s=k:=by omega
    subst this
    rw[List.getElem?_set_self (by omega)]
    rfl
   ·rw[List.getElem?_set_ne e]
    exact i2 k (by omega)
def Wz (N:Int) (s:Nat):List UInt8:=(List.range s).map fun j=>QDe N (15 - j)
theorem hexTo_eq {N:Int}{L:List UInt8}(hl:L.length=16) (h:∀ k,k<16→L[15 - k]? = some (QDe N k)):L=Wz N 16:=by
 refine List.ext_getElem? fun i=> ?_
 rcases Nat.lt_or_ge i 16 with hi|hi
 ·have:=h (15 - i) (by omega)
  rw[show 15 - (15 - i)=i by omega]at this
  rw[this]
  unfold Wz
  rw[List.getElem?_map,List.getElem?_range hi,Option.map_some]
 ·rw[List.getElem?_eq_none (by omega),List.getElem?_eq_none (by unfold Wz;rw[List.length_map,List.length_range];exact hi)]
theorem QAF (b:List UInt8):digV b=⟨(Wz (digN b) 16).toArray⟩:=by
 obtain⟨h0,h1⟩:=digN_bd b
 unfold digV
 rw[hexTo_eq (YI (digN b) 16) (QBP h0 h1 16 (Nat.le_refl _)).2]
theorem QDd (N:Int) (s:Nat):Wz N (s+1)=Wz N s++ [QDe N (15 - s)]:=by
 unfold Wz
 rw[List.range_succ,List.map_append];rfl
theorem hexS_at:∀ d,d<16→(⟨#[48,49,50,51,52,53,54,55,56,57,97,98,99,100,101,102]⟩:ByteArray).extract d (d+1)=⟨#[hexL.getD d 0]⟩:=by decide
set_option maxHeartbeats 1000000 in
theorem Wa (b:List UInt8) (hb:(b.length:Int)≤9223372036854775807):FRet Tryz.prog 40 [.f (frB b)] [.c (.v (.str (digV b)))]:=by
 rw[QAF]
 obtain⟨n0,n1⟩:=digN_bd b
 refine FCall.of_ax NV ?_
 dsimp only[jm,ji,jf,jl,jL,jn,je,jx,jT,jC,jB,jq,jt,ju,jA,km,kf,kl,kn,kx,WF,frB]
 refine zrs ?_
 repeat'(first|(simp -implicitDefEqProofs only[*,zr,seval,reduceIte,reduceCtorEq])|(apply zk<;>intro hc)|(refine zp ?_)|(refine zd ?_)|fail)
 refine QK (S:=Nat) 37 [0] [] (fun s=>[(3,.f (.int .u64 (digN (b.take s)))),(4,.f (.int .i64 s))]) (fun s=>[]) (fun s=>s≤b.length) (fun s=>b.length - s) (0) [] ?_ ?_ fun s hs=> ?_
 ·exact Nat.zero_le _
 ·refine wk_i ?_ ?_<;>simp only[List.take_zero,show digN []=14695981039346656037 from rfl,zw,seval,reduceIte,reduceCtorEq]
 refine zrs ?_
 rcases Nat.lt_or_ge s b.length with hlt|hge
 ·obtain⟨x,hx⟩:=QH hlt
  have h4:=XU hlt hb
  have h2:=lt_t hlt
  have hs2:digN (b.take (s+1))=IntKind.u64.wrap (IntKind.u64.wrap ((BitVec.ofInt IntKind.u64.bits (digN (b.take s)) ^^^ BitVec.ofInt IntKind.u64.bits (IntKind.u64.wrap (x.toNat:Nat))).toNat:Nat)*1099511628211):=by
   rw[List.take_add_one,hx,digN,List.foldl_append];rfl
  repeat'(first|(simp -implicitDefEqProofs only[*,List.getElem?_map,Option.map_some,encU,List.length_map,zr,seval,reduceIte,reduceCtorEq])|(apply zk<;>intro hc)|(refine zp ?_)|(refine zd ?_)|fail)
  refine⟨s+1,hlt,by omega,?_⟩
  rw[hs2]
  refine wk_i ?_ ?_<;>simp only[zw,seval,reduceIte,reduceCtorEq]
 obtain rfl:s=b.length:=by omega
 have h2:=lt_f hge
 have h3:=List.take_length (l:=b)
 obtain⟨N,hN⟩:∃ N,digN b=N:=⟨_,rfl⟩
 rw[hN]at n0 n1 ⊢
 repeat'(first|(simp -implicitDefEqProofs only[*,List.length_map,zr,seval,reduceIte,reduceCtorEq])|(apply zk<;>intro hc)|(refine zp ?_)|(refine zd ?_)|fail)
 clear hge h2 h3 hs
 refine QK (S:=Nat) 37 [3] [] (fun s=>[(5,.f (.str ⟨(Wz N s).toArray⟩)),(6,.f (.int .i64 (60 - 4*s)))]) (fun s=>[]) (fun s=>s≤16) (fun s=>16 - s) (0) [] ?_ ?_ fun s hs=> ?_
 ·exact Nat.zero_le _
 ·refine wk_i ?_ ?_<;>simp only[Wz,List.range_zero,List.map_nil,zw,seval,reduceIte,reduceCtorEq]
  all_goals rfl
 refine zrs ?_
 rcases Nat.lt_or_ge s 16 with hlt|hge
 ·have h2:decide (60 - 4*(s:Int)≥0)=true:=dcT (by omega)
  have h3:IntKind.i64.wrap (60 - 4*(s:Int) - 4)=60 - 4*((s+1:Nat):Int):=by rw[QR]<;>omega
  have q0:(0≤60 - 4*(s:Int))=True:=by rw[eq_iff_iff,iff_true];omega
  have hsx:=QDd N s
  have q1:N.fdiv (2 ^ min (60 - 4*(s:Int)).toNat IntKind.u64.bits)=N / 16 ^ (15 - s):=by
   rw[Int.fdiv_eq_ediv_of_nonneg _ (Int.le_of_lt (Int.pow_pos (by decide)))]
   have e1:min (60 - 4*(s:Int)).toNat IntKind.u64.bits=4*(15 - s):=by
    show min (60 - 4*(s:Int)).toNat 64=_
    omega
   rw[e1,Int.pow_mul];rfl
  unfold QDe at hsx
  have hK0:0≤N / 16 ^ (15 - s):=Int.ediv_nonneg n0 (Int.le_of_lt (Int.pow_pos (by decide)))
  generalize N / 16 ^ (15 - s)=K at*
  have q2:K.tmod 16=K % 16:=Int.tmod_eq_emod_of_nonneg hK0
  have hd0:0≤K % 16∧K % 16<16:=by omega
  generalize K % 16=d at*
  have q4:IntKind.u64.wrap d=d:=by rw[IntKind.wrap_u64];omega
  have q5:IntKind.u64.wrap (d+1)=d+1:=by rw[IntKind.wrap_u64];omega
  obtain⟨dn,rfl⟩:∃ n:Nat,d=(n:Int):=⟨d.toNat,by omega⟩
  have hdn:dn<16:=by omega
  rw[Int.toNat_natCast]at hsx
  replace q1:=q1
  clear hd0 hK0
  have hAl:(Wz N s).length=s:=by unfold Wz;rw[List.length_map,List.length_range]
  generalize Wz N s=A at*
  have q6:((dn:Int)≤(dn:Int)+1∧(dn:Int)+1≤((⟨#[48,49,50,51,52,53,54,55,56,57,97,98,99,100,101,102]⟩:ByteArray).size:Int))=True:=by
   rw[eq_iff_iff,iff_true]
   exact⟨by omega,by show(dn:Int)+1≤16;omega⟩
  have q7:((dn:Int)+1).toNat=dn+1:=by omega
  have q8:(⟨#[48,49,50,51,52,53,54,55,56,57,97,98,99,100,101,102]⟩:ByteArray).extract dn (dn+1)=⟨#[hexL.getD dn 0]⟩:=hexS_at dn hdn
  generalize hexL.getD dn 0=c at*
  have q9:((⟨A.toArray⟩:ByteArray).size+(⟨#[c]⟩:ByteArray).size≤9223372036854775807)=True:=by
   rw[eq_iff_iff,iff_true]
   simp only[ByteArray.size,List.size_toArray,List.length_cons,List.length_nil]
   omega
  have q10:(⟨A.toArray⟩:ByteArray)++⟨#[c]⟩=⟨(A++ [c]).toArray⟩:=by apply ByteArray.ext;simp
  repeat'(first|(simp -implicitDefEqProofs only[*,zr,seval,reduceIte,reduceCtorEq])|(apply zk<;>intro hc)|(refine zp ?_)|(refine zd ?_)|fail)
  refine⟨s+1,hlt,by omega,?_⟩
  rw[hsx]
  refine wk_i ?_ ?_<;>simp only[zw,seval,reduceIte,reduceCtorEq]
 ·obtain rfl:s=16:=by omega
  have h2:decide (60 - 4*((16:Nat):Int)≥0)=false:=by decide
  repeat'(first|(simp -implicitDefEqProofs only[*,zr,seval,reduceIte,reduceCtorEq])|(apply zk<;>intro hc)|(refine zp ?_)|(refine zd ?_)|fail)
  exact VO
end Go.Proofs.YtjfchihkhpinmaaGreatDoor
namespace Go.Proofs.YtjfchihkhpinmaaGreatDoor
open Go.RowKit Go.Shelf
set_option linter.unusedVariables false
set_option linter.unusedSimpArgs false
set_option maxRecDepth 100000

def ckC (t:ByteArray) (b:List UInt8):Int:=if XZ t=false then 3 else if 100000<(b.length:Int)then 2 else 0
theorem MP (t:ByteArray) (b:List UInt8):FRet Tryz.prog 19 [.f (.str t),.f (frB b)] [.c (.v (.int .i64 (ckC t b)))]:=by
 have kI:=Xy t
 unfold ckC
 generalize XZ t=dg at*
 refine FCall.of_ax JG ?_
 dsimp only[jm,ji,jf,jl,jL,jn,je,jx,jT,jC,jB,jq,jt,ju,jA,km,kf,kl,kn,kx,Yf]
 refine zrs ?_
 cases dg with
 | false=>
  repeat'(first|(simp -implicitDefEqProofs only[*,zr,seval,reduceIte,reduceCtorEq])|(apply zk<;>intro hc)|(refine zp ?_)|(refine zd ?_)|(refine cP (kI) ?_)|(refine cD (kI) ?_)|(refine cF (kI) ?_)|fail)
  exact VO
 | true=>
  rw[if_neg (by decide)]
  by_cases h:100000<(b.length:Int)
  ·rw[if_pos h]
   have d1:decide ((b.length:Int) > 100000)=true:=dcT h
   have d2:decide (100000<(b.length:Int))=true:=dcT h
   repeat'(first|(simp -implicitDefEqProofs only[*,frB,List.length_map,zr,seval,reduceIte,reduceCtorEq])|(apply zk<;>intro hc)|(refine zp ?_)|(refine zd ?_)|(refine cP (kI) ?_)|(refine cD (kI) ?_)|(refine cF (kI) ?_)|fail)
   exact VO
  ·rw[if_neg h]
   have d1:decide ((b.length:Int) > 100000)=false:=dcF h
   have d2:decide (100000<(b.length:Int))=false:=dcF h
   repeat'(first|(simp -implicitDefEqProofs only[*,frB,List.length_map,zr,seval,reduceIte,reduceCtorEq])|(apply zk<;>intro hc)|(refine zp ?_)|(refine zd ?_)|(refine cP (kI) ?_)|(refine cD (kI) ?_)|(refine cF (kI) ?_)|fail)
   exact VO
def dMsg (t:ByteArray) (b:List UInt8) (f most:Nat):Mg:=(2,t,f,0,(b.drop f).take most)
theorem QDj (t:ByteArray) (b:List UInt8) (f most:Nat) (hf:f≤b.length) (hm:most≤65536) (hb:b.length≤100000) :
  FRet Tryz.prog 52 [.f (.str t),.f (frB b),.f (.int .i64 f),.f (.int .i64 most)] [.agg ((fMg (dMsg t b f most)).map .v)]:=by
 have k:=WR ((b.drop f).take most) (by rw[List.length_take];omega)
 have h1:IntKind.i64.wrap ((f:Int)+(most:Int))=((f+most:Nat):Int):=by rw[QR]<;>omega
 have h2:min ((f+most:Nat):Int) ((b.length:Nat):Int)=((min (f+most) b.length:Nat):Int):=by omega
 have e1:List.drop f (List.take (min (f+most) b.length) (List.map encU b))=((b.drop f).take most).map encU:=by
  rw[List.map_take,List.map_drop]
  refine List.ext_getElem? fun i=> ?_
  rw[List.getElem?_drop,List.getElem?_take,List.getElem?_take,List.getElem?_drop]
  by_cases hi:i<most
  ·rw[if_pos hi]
   by_cases h3:f+i<min (f+most) b.length
   ·rw[if_pos h3]
   ·rw[if_neg h3,List.getElem?_eq_none (by rw[List.length_map];omega)]
  ·rw[if_neg hi,if_neg (by omega)]
 refine FCall.of_ax Wq ?_
 dsimp only[jm,ji,jf,jl,jL,jn,je,jx,jT,jC,jB,jq,jt,ju,jA,km,kf,kl,kn,kx,JM,frB,dMsg,fMg,List.map]at k ⊢
 refine zrs ?_
 generalize (b.drop f).take most=C at*
 have g1:((f:Int)≤((min (f+most) b.length:Nat):Int))=True:=by rw[eq_iff_iff,iff_true];omega
 have g2:(((min (f+most) b.length:Nat):Int)≤(b.length:Int))=True:=by rw[eq_iff_iff,iff_true];omega
 repeat'(first|(simp -implicitDefEqProofs only[*,List.length_map,zr,seval,reduceIte,reduceCtorEq])|(apply zk<;>intro hc)|(refine zp ?_)|(refine zd ?_)|(refine cP (k) ?_)|(refine cD (k) ?_)|(refine cF (k) ?_)|fail)
 exact⟨[.agg [.f (.int .i64 2),.f (.str t),.f (.int .i64 f),.f (.int .i64 0),.f (.fr 1 (List.map encU C))]],rfl,⟨⟨rfl,rfl,rfl,rfl,rfl,rfl⟩,rfl⟩,List.nodup_nil⟩
end Go.Proofs.YtjfchihkhpinmaaGreatDoor
namespace Go.Proofs.YtjfchihkhpinmaaGreatDoor
open Go.RowKit Go.Shelf
set_option linter.unusedVariables false
set_option linter.unusedSimpArgs false

def YE (t:ByteArray) (b:List UInt8) (most:Nat):Nat→Int→Mg→Rc→Int→(Bool × Int) × Rc × Int
 | 0,_,_,r,sent=>((true,0),r,sent)
 | k+1,left,m,r,sent=>
  if left=0 then((false,0),r,sent+m.2.2.2.2.length)
  else if (VC r.1 r.2 m).1≠0∨(VC r.1 r.2 m).2.2.1≠3 then((true,(VC r.1 r.2 m).1),(VC r.1 r.2 m).2.1,sent+m.2.2.2.2.length)
  else YE t b most k (left - 1) (dMsg t b (VC r.1 r.2 m).2.2.2.2.1.toNat most) (VC r.1 r.2 m).2.1 (sent+m.2.2.2.2.length)
structure SOk (t:ByteArray) (b:List UInt8) (most:Nat) (r:Rc) (m:Mg):Prop where
 ok:ROk r
 at_:m=((1,t,0,(b.length:Int),[]):Mg)∨∃ f:Nat,m=dMsg t b f most∧f<b.length∧Mid r t b.length f
def meas (b:List UInt8) (m:Mg):Nat:=if m.1=1 then b.length+1 else b.length - m.2.2.1.toNat
theorem QDI {r:Rc}{m:Mg}(h:ROk r) (h0:(VC r.1 r.2 m).1=0):YY r m=VC r.1 r.2 m:=by
 unfold YY
 rw[if_neg (fun hh=>hh (WS.2 h)),if_neg (fun hh=>hh h0)]
theorem next_from {r:Rc}{t:ByteArray}{L:Nat}{f:Nat}{c:List UInt8}(h:Mid r t L f) (hd:XZ t=true) (hL:L≤100000) (hc0:0<c.length) (hc1:f+c.length≤L) (hc2:c.length≤65536) (h3:(VC r.1 r.2 (2,t,f,0,c)).2.2.1=3):(VC r.1 r.2 (2,t,f,0,c)).2.2.2.2.1=((f+c.length:Nat):Int):=by
 obtain⟨hok,hno,p,hp,hs,hl⟩:=h
 obtain⟨D,P⟩:=r
 dsimp only at hno hp h3 ⊢
 have hck:ckMg (2,t,(f:Int),0,c) c.length=0:=by
  unfold ckMg
  dsimp only
  rw[if_neg (by decide),if_neg (by rw[hd];decide),if_neg (by simp only[inRg,Bool.not_eq_false,Bool.and_eq_true,decide_eq_true_eq];omega),if_neg (by omega),if_neg (by simp),if_neg (by simp),if_neg (by
   have:decide (0<(c.length:Int))=true:=decide_eq_true (by omega)
   rw[this];simp)]
 have e1:VC D P (2,t,(f:Int),0,c)=Zw D P p t f c:=by
  unfold VC
  dsimp only
  rw[if_neg (fun h=>h hck),if_neg (by decide),if_neg (by rw[hno];decide),if_neg (by decide),hp]
  dsimp only
  rw[if_pos rfl]
 have e2:Zw D P p t f c=if ((p.2.2++c).length:Int)<p.2.1 then(0,(D,P.set (Qc P t) (t,p.2.1,p.2.2++c)),(3,t,((p.2.2++c).length:Int),0,[]))else VB D (delP P t) t (p.2.2++c):=by
  unfold Zw
  have hmin:min c.length (p.2.2.length - (f:Int).toNat)=0:=by omega
  rw[hmin,if_neg (by omega),if_pos (by rw[List.take_zero,List.take_zero]),if_neg (by omega),List.drop_zero]
 rw[e1,e2]at h3 ⊢
 have hlen:(p.2.2++c).length=f+c.length:=by rw[List.length_append,hl]
 split at h3
 ·rename_i hlt
  rw[if_pos hlt]
  show(((p.2.2++c).length:Nat):Int)=_
  rw[hlen]
 ·exfalso
  revert h3
  unfold VB
  split
  ·split
   ·intro h;cases h
   ·intro h;cases h
  ·intro h;cases h
theorem s_step {t:ByteArray}{b:List UInt8}{most:Nat}{r:Rc}{m:Mg}(h:SOk t b most r m) (hd:XZ t=true) (hb:b.length≤100000) (hm:1≤most∧most≤65536) (h0:(VC r.1 r.2 m).1=0) (h3:(VC r.1 r.2 m).2.2.1=3) :
  ∃ n:Nat,(VC r.1 r.2 m).2.2.2.2.1=n∧n<b.length∧Mid (VC r.1 r.2 m).2.1 t b.length n∧b.length - n<meas b m:=by
 have e:=QDI h.ok h0
 rcases h.at_ with rfl|⟨f,rfl,hf,hmid⟩
 ·rw[← e]at h0 h3 ⊢
  rcases QDi h0 (by rw[h3];decide)with⟨h4,_⟩|⟨n,_,k2,k3,k4⟩
  ·rw[h4]at h3;cases h3
  ·exact⟨n,k2,k3,k4,by unfold meas;rw[if_pos rfl];omega⟩
 ·have hc:((b.drop f).take most).length=min most (b.length - f):=by rw[List.length_take,List.length_drop]
  have hN:=next_take (c:=(b.drop f).take most) hmid hd hb (by omega) (by omega) (by omega)
  have hF:=next_from (c:=(b.drop f).take most) hmid hd hb (by omega) (by omega) (by omega) h3
  have e':YY r (2,t,(f:Int),0,(b.drop f).take most)=VC r.1 r.2 (2,t,(f:Int),0,(b.drop f).take most):=e
  rw[e']at hN
  have h0':(VC r.1 r.2 (2,t,(f:Int),0,(b.drop f).take most)).1=0:=h0
  have h3':(VC r.1 r.2 (2,t,(f:Int),0,(b.drop f).take most)).2.2.1=3:=h3
  rcases hN with h|⟨_,⟨k1,k2,k3⟩|⟨k1,k2⟩⟩
  ·rw[h0']at h;cases h
  ·refine⟨_,hF,k1,k3,?_⟩
   unfold meas dMsg
   rw[if_neg (show(2:Int)≠1 by decide)]
   show _<b.length - ((f:Int)).toNat
   rw[Int.toNat_natCast]
   omega
  ·rw[h3']at k2;rcases k2 with h|h<;>cases h
theorem s_next {t:ByteArray}{b:List UInt8}{most:Nat}{r:Rc}{n:Nat}(hn:n<b.length) (h:Mid r t b.length n):SOk t b most r (dMsg t b n most):=⟨h.ok,.inr ⟨n,rfl,hn,h⟩⟩
end Go.Proofs.YtjfchihkhpinmaaGreatDoor
