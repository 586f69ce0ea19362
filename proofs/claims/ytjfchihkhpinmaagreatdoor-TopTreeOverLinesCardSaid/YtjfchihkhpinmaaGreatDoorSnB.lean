/-
  slices.symMergeCmpFunc at nodes of a directory: the general case. No statement of the seat is proved here; no conditions.
-/
import Derived.Test.YtjfchihkhpinmaaGreatDoorSnA
namespace Go.Proofs.YtjfchihkhpinmaaGreatDoor
open Go.RowKit Go.Shelf
set_option linter.unusedVariables false
set_option linter.unusedSimpArgs false
set_option maxRecDepth 100000

section
variable {α : Type}{lt : α→α→Bool}
theorem Uj {S T:List α}(ho:OrdOn lt T) (hp:S.Perm T) (hs:Qk lt S):S=QW lt T:=
 ZO (ho.perm hp) (hp.trans (QV lt T).symm) hs (VD ho)
theorem OE {S:List α}(ho:OrdOn lt S) (hs:Qk lt S):QW lt S=S:=(Uj ho (.refl _) hs).symm
theorem OrdOn.flip {S:List α}(ho:OrdOn lt S){x y : α}(hx:x∈S) (hy:y∈S) (hne:x≠y) (h:lt x y=false):lt y x=true:=by
 rcases ho.tot x y hx hy h with e|e
 ·exact absurd e hne
 ·exact e
theorem sorted_lt {S:List α}(hs:Qk lt S){i j:Nat}{x y : α}(hij:i<j) (hx:S[i]? = some x) (hy:S[j]? = some y):lt x y=true:=by
 obtain⟨b1,b2⟩:=List.getElem?_eq_some_iff.1 hx
 obtain⟨c1,c2⟩:=List.getElem?_eq_some_iff.1 hy
 have:=List.pairwise_iff_getElem.1 hs i j b1 c1 hij
 rw[b2,c2]at this;exact this
theorem QA0 {B:List α}{x : α}{k:Nat}(ho:OrdOn lt (x::B)) (hs:Qk lt B) (h1:∀ (c:Nat) y,c<k→B[c]? = some y→lt y x=true) (h2:∀ (c:Nat) y,k≤c→B[c]? = some y→lt x y=true):B.take k++x::B.drop k=QW lt (x::B):=by
 refine Uj ho ?_ ?_
 ·refine List.perm_middle.trans ?_
  rw[List.take_append_drop]
 ·have hsp:Qk lt (B.take k++B.drop k):=by rw[List.take_append_drop];exact hs
  obtain⟨a1,a2,a3⟩:=List.pairwise_append.1 hsp
  have hd:∀ y∈B.drop k,lt x y=true:=fun y hy=>by
   obtain⟨c,hc⟩:=List.mem_iff_getElem?.1 hy
   rw[List.getElem?_drop]at hc
   exact h2 _ y (by omega) hc
  refine List.pairwise_append.2 ⟨a1,List.pairwise_cons.2 ⟨hd,a2⟩,fun z hz w hw=> ?_⟩
  rcases List.mem_cons.1 hw with rfl|hw
  ·obtain⟨c,hc⟩:=List.mem_iff_getElem?.1 hz
   have hcl:=(List.getElem?_eq_some_iff.1 hc).1
   rw[List.length_take]at hcl
   rw[List.getElem?_take_of_lt (by omega)]at hc
   exact h1 c z (by omega) hc
  ·exact a3 z hz w hw
theorem OY {A B:List α}{x y : α}(h:(A++B).Nodup) (hx:x∈A) (hy:y∈B):x≠y:=(List.nodup_append.1 h).2.2 x hx y hy
theorem ins_left {x : α}{B:List α}{k:Nat}(ho:OrdOn lt ([x]++B)) (hs:Qk lt B) (h1:∀ (c:Nat) y,c<k→B[c]? = some y→lt y x=true) (h2:∀ (c:Nat) y,k≤c→B[c]? = some y→lt y x=false) (P Q:List α):Vb P B Q x k=P++QW lt ([x]++B)++Q:=by
 unfold Vb
 rw[QA0 (B:=B) (x:=x) ho hs h1 (fun c y hc hy=>ho.flip (by simp [List.mem_of_getElem? hy]) (by simp) (OY ho.nd (by simp) (List.mem_of_getElem? hy)).symm (h2 c y hc hy))];rfl
theorem ins_right {x : α}{A:List α}{k:Nat}(ho:OrdOn lt (A++ [x])) (hs:Qk lt A) (h1:∀ (c:Nat) y,c<k→A[c]? = some y→lt x y=false) (h2:∀ (c:Nat) y,k≤c→A[c]? = some y→lt x y=true) (P Q:List α):Vb P A Q x k=P++QW lt (A++ [x])++Q:=by
 have hp:(x::A).Perm (A++ [x]):=(List.perm_append_singleton x A).symm
 have:=QA0 (x:=x) (k:=k) (ho.perm hp) hs (fun c y hc hy=>ho.flip (by simp) (by simp [List.mem_of_getElem? hy]) (OY ho.nd (List.mem_of_getElem? hy) (by simp)).symm (h1 c y hc hy)) h2
 unfold Vb
 rw[this]
 congr 2
 exact Uj ho ((QV lt _).trans hp) (VD (ho.perm hp))
theorem insAt_up {P S Q:List α}{x y : α}{k:Nat}(hk:S[k]? = some y):(Vb P S Q x k)[P.length+k]? = some x∧(Vb P S Q x k)[P.length+k+1]? = some y∧((Vb P S Q x k).set (P.length+k) y).set (P.length+k+1) x=Vb P S Q x (k+1):=by
 have hkl:=(List.getElem?_eq_some_iff.1 hk).1
 have dS:S.drop k=y::S.drop (k+1):=WQ hk
 have e1:Vb P S Q x k=(P++S.take k)++x::y::(S.drop (k+1)++Q):=by
  unfold Vb;rw[dS];simp [List.append_assoc]
 have e2:Vb P S Q x k=(P++S.take k++ [x])++y::(S.drop (k+1)++Q):=by rw[e1];simp [List.append_assoc]
 have l1:(P++S.take k).length=P.length+k:=by rw[List.length_append,List.length_take];omega
 have l2:(P++S.take k++ [x]).length=P.length+k+1:=by rw[List.length_append,l1];rfl
 have l3:(P++S.take k++ [y]).length=P.length+k+1:=by rw[List.length_append,l1];rfl
 refine⟨?_,?_,?_⟩
 ·rw[e1,← l1,List.getElem?_append_right (Nat.le_refl _),Nat.sub_self];rfl
 ·rw[e2,← l2,List.getElem?_append_right (Nat.le_refl _),Nat.sub_self];rfl
 ·rw[e1,← l1,List.set_append_right _ _ (Nat.le_refl _),Nat.sub_self,List.set_cons_zero,l1]
  have e3:P++S.take k++y::y::(S.drop (k+1)++Q)=(P++S.take k++ [y])++y::(S.drop (k+1)++Q):=by simp [List.append_assoc]
  rw[e3,← l3,List.set_append_right _ _ (Nat.le_refl _),Nat.sub_self,List.set_cons_zero]
  unfold Vb
  rw[List.take_add_one,hk];simp [List.append_assoc]
theorem insAt_0 {P S Q:List α}{x : α} : Vb P S Q x 0=P++ [x]++S++Q:=by unfold Vb;simp
theorem halves {A1 A2 B1 B2:List α}(ho:OrdOn lt ((A1++A2)++(B1++B2))) (hA:Qk lt (A1++A2)) (hB:Qk lt (B1++B2)) (h1:∀ x∈A1,∀ y∈B2,lt x y=true) (h2:∀ x∈B1,∀ y∈A2,lt x y=true):QW lt ((A1++A2)++(B1++B2))=QW lt (A1++B1)++QW lt (A2++B2):=by
 have hpm:((A1++B1)++(A2++B2)).Perm ((A1++A2)++(B1++B2)):=by
  rw[List.append_assoc,List.append_assoc]
  refine List.Perm.append_left A1 ?_
  rw[← List.append_assoc,← List.append_assoc]
  exact List.Perm.append_right B2 List.perm_append_comm
 have ho':=ho.perm hpm
 have oL:OrdOn lt (A1++B1):=ho'.sub (List.sublist_append_left _ _)
 have oR:OrdOn lt (A2++B2):=ho'.sub (List.sublist_append_right _ _)
 refine(Uj ho (((QV lt _).append (QV lt _)).trans hpm) ?_).symm
 refine List.pairwise_append.2 ⟨VD oL,VD oR,fun x hx y hy=> ?_⟩
 have hx:=(QV lt _).mem_iff.1 hx
 have hy:=(QV lt _).mem_iff.1 hy
 rcases List.mem_append.1 hx with hx|hx<;>rcases List.mem_append.1 hy with hy|hy
 ·exact(List.pairwise_append.1 hA).2.2 x hx y hy
 ·exact h1 x hx y hy
 ·exact h2 x hx y hy
 ·exact(List.pairwise_append.1 hB).2.2 x hx y hy
theorem JL {A:List α}{k:Nat}(hs:Qk lt A){i j:Nat}{x y : α}(hx:A[i]? = some x) (hy:A[j]? = some y) (hij:i≤j):x=y∨lt x y=true:=by
 rcases Nat.eq_or_lt_of_le hij with rfl|h
 ·rw[hx]at hy;exact Or.inl (Option.some.inj hy)
 ·exact Or.inr (sorted_lt hs h hx hy)
theorem split_ok {A B:List α}{c d:Nat}(hc:c≤A.length) (hd:d≤B.length) (ho:OrdOn lt (A++B)) (hA:Qk lt A) (hB:Qk lt B) (h1:∀ x y,0<c→A[c - 1]? = some x→B[d]? = some y→lt y x=false) (h2:∀ x y,0<d→B[d - 1]? = some x→A[c]? = some y→lt x y=true) :
  QW lt (A++B)=QW lt (A.take c++B.take d)++QW lt (A.drop c++B.drop d):=by
 have hA':Qk lt (A.take c++A.drop c):=by rw[List.take_append_drop];exact hA
 have hB':Qk lt (B.take d++B.drop d):=by rw[List.take_append_drop];exact hB
 have:=halves (lt:=lt) (A1:=A.take c) (A2:=A.drop c) (B1:=B.take d) (B2:=B.drop d) (by rw[List.take_append_drop,List.take_append_drop];exact ho) hA' hB' ?_ ?_
 ·rw[List.take_append_drop,List.take_append_drop]at this;exact this
 ·intro x hx y hy
  obtain⟨i,hi⟩:=List.mem_iff_getElem?.1 hx
  obtain⟨j,hj⟩:=List.mem_iff_getElem?.1 hy
  have hil:=(List.getElem?_eq_some_iff.1 hi).1
  rw[List.length_take]at hil
  rw[List.getElem?_take_of_lt (by omega)]at hi
  rw[List.getElem?_drop]at hj
  have hjl:=(List.getElem?_eq_some_iff.1 hj).1
  obtain⟨x',hx'⟩:=QH (l:=A) (i:=c - 1) (by omega)
  obtain⟨y',hy'⟩:=QH (l:=B) (i:=d) (by omega)
  have mx:=List.mem_of_getElem? hi
  have mx':=List.mem_of_getElem? hx'
  have my:=List.mem_of_getElem? hj
  have my':=List.mem_of_getElem? hy'
  have e1:=ho.flip (by simp [my']) (by simp [mx']) (OY ho.nd mx' my').symm (h1 x' y' (by omega) hx' hy')
  have e2:lt x' y=true:=by
   rcases JL (k:=0) hB hy' hj (by omega)with rfl|e
   ·exact e1
   ·exact ho.tr x' y' y (by simp [mx']) (by simp [my']) (by simp [my]) e1 e
  rcases JL (k:=0) hA hi hx' (by omega)with rfl|e
  ·exact e2
  ·exact ho.tr x x' y (by simp [mx]) (by simp [mx']) (by simp [my]) e e2
 ·intro x hx y hy
  obtain⟨i,hi⟩:=List.mem_iff_getElem?.1 hx
  obtain⟨j,hj⟩:=List.mem_iff_getElem?.1 hy
  have hil:=(List.getElem?_eq_some_iff.1 hi).1
  rw[List.length_take]at hil
  rw[List.getElem?_take_of_lt (by omega)]at hi
  rw[List.getElem?_drop]at hj
  have hjl:=(List.getElem?_eq_some_iff.1 hj).1
  obtain⟨x',hx'⟩:=QH (l:=B) (i:=d - 1) (by omega)
  obtain⟨y',hy'⟩:=QH (l:=A) (i:=c) (by omega)
  have mx:=List.mem_of_getElem? hi
  have mx':=List.mem_of_getElem? hx'
  have my:=List.mem_of_getElem? hj
  have my':=List.mem_of_getElem? hy'
  have e1:=h2 x' y' (by omega) hx' hy'
  have e2:lt x' y=true:=by
   rcases JL (k:=0) hA hy' hj (by omega)with rfl|e
   ·exact e1
   ·exact ho.tr x' y' y (by simp [mx']) (by simp [my']) (by simp [my]) e1 e
  rcases JL (k:=0) hB hi hx' (by omega)with rfl|e
  ·exact e2
  ·exact ho.tr x x' y (by simp [mx]) (by simp [mx']) (by simp [my]) e e2
theorem at_P {P A B Q:List α}{c:Nat}{x : α}(h:A[c]? = some x):(P++A++B++Q)[P.length+c]? = some x:=by
 have hl:=(List.getElem?_eq_some_iff.1 h).1
 rw[List.append_assoc,List.append_assoc,List.getElem?_append_right (by omega),Nat.add_sub_cancel_left,List.getElem?_append_left hl];exact h
theorem at_A {P A B Q:List α}{c:Nat}{x : α}(h:B[c]? = some x):(P++A++B++Q)[P.length+A.length+c]? = some x:=by
 have hl:=(List.getElem?_eq_some_iff.1 h).1
 rw[List.append_assoc,List.getElem?_append_right (by rw[List.length_append];omega),show P.length+A.length+c - (P++A).length=c by rw[List.length_append];omega,List.getElem?_append_left hl];exact h
theorem rot_PABQ {P A B Q:List α}{c d:Nat}(hc:c≤A.length) (hd:d≤B.length):rotV (P++A++B++Q) (P.length+c) (P.length+A.length) (P.length+A.length+d)=P++(A.take c++B.take d)++(A.drop c++B.drop d)++Q:=by
 have e:P++A++B++Q=(P++A.take c)++A.drop c++B.take d++(B.drop d++Q):=by
  conv=>lhs;rw[← List.take_append_drop c A,← List.take_append_drop d B]
  simp only[List.append_assoc]
 have l1:(P++A.take c).length=P.length+c:=by rw[List.length_append,List.length_take];omega
 have l2:(P++A.take c++A.drop c).length=P.length+A.length:=by rw[List.length_append,l1,List.length_drop];omega
 have l3:(P++A.take c++A.drop c++B.take d).length=P.length+A.length+d:=by rw[List.length_append,l2,List.length_take];omega
 unfold rotV
 rw[e]
 have t1:((P++A.take c)++A.drop c++B.take d++(B.drop d++Q)).take (P.length+c)=P++A.take c:=by
  rw[List.append_assoc,List.append_assoc,← l1,List.take_left']
  rfl
 have t2:(((P++A.take c)++A.drop c++B.take d++(B.drop d++Q)).drop (P.length+A.length)).take (P.length+A.length+d - (P.length+A.length))=B.take d:=by
  rw[List.append_assoc (P++A.take c++A.drop c),← l2,List.drop_left',List.take_left']
  ·rw[List.length_take];omega
  ·rfl
 have t3:(((P++A.take c)++A.drop c++B.take d++(B.drop d++Q)).drop (P.length+c)).take (P.length+A.length - (P.length+c))=A.drop c:=by
  rw[List.append_assoc,List.append_assoc,← l1,List.drop_left',List.take_left']
  ·rw[List.length_drop,l1];omega
  ·rfl
 have t4:((P++A.take c)++A.drop c++B.take d++(B.drop d++Q)).drop (P.length+A.length+d)=B.drop d++Q:=by
  rw[← l3,List.drop_left'];rfl
 rw[t1,t2,t3,t4]
 simp [List.append_assoc]
theorem same_PABQ {P A B Q:List α}{c d:Nat}(h:A.length≤c∨d=0):P++A++B++Q=P++(A.take c++B.take d)++(A.drop c++B.drop d)++Q:=by
 rcases h with h|rfl
 ·rw[List.take_of_length_le h,List.drop_of_length_le h]
  conv=>lhs;rw[← List.take_append_drop d B]
  simp only[List.append_assoc,List.nil_append]
 ·conv=>lhs;rw[← List.take_append_drop c A]
  simp only[List.append_assoc,List.take_zero,List.drop_zero,List.nil_append,List.append_nil]
end
theorem wrapU {n:Int}(h1:0≤n) (h2:n≤18446744073709551615):IntKind.u64.wrap n=n:=by
 rw[IntKind.wrap_u64];omega
theorem halfW {i j:Nat}(h:i+j≤4000000):IntKind.i64.wrap ((i:Int)+j)=((i+j:Nat):Int)∧IntKind.u64.wrap ((i+j:Nat):Int)=((i+j:Nat):Int)∧Int.fdiv ((i+j:Nat):Int) (2 ^ min 1 IntKind.u64.bits)=(((i+j) / 2:Nat):Int)∧IntKind.i64.wrap (((i+j) / 2:Nat):Int)=(((i+j) / 2:Nat):Int):=by
 refine⟨by rw[QR]<;>omega,wrapU (by omega) (by omega),?_,by rw[QR]<;>omega⟩
 rw[show min 1 IntKind.u64.bits=1 from rfl,Int.fdiv_eq_ediv_of_nonneg _ (by decide)];omega
theorem sym_left (P B Q:List Nr) (x:Nr) (lt:Nr→Nr→Bool) (cf:Nr→Nr→Int) (fn:FuncId) (hl:(P++ [x]++B++Q).length≤1000000)
  (hcf:∀ x y,FRet Tryz.prog fn [.agg ((fNr x).map .f),.agg ((fNr y).map .f)] [.c (.v (.int .i64 (cf x y)))]) (hB:Qk lt B) (ho:OrdOn lt ([x]++B)) (hk:∀ z∈B,∀ y∈[x],decide (cf z y<0)=lt z y) :
  Yt Tryz.prog 122 3 (P++ [x]++B++Q).length ((QJ (P++ [x]++B++Q)).map .v) [] [.f (.int .i64 P.length),.f (.int .i64 ((P.length+1:Nat):Int)),.f (.int .i64 ((P.length+1+B.length:Nat):Int)),.f (.fn (.func fn))] ((QJ (P++QW lt ([x]++B)++Q)).map .v) []:=by
 have gx:(P++ [x]++B++Q)[P.length]? = some x:=at_P (A:=[x]) (c:=0) rfl
 have gB:∀ (c:Nat) y,B[c]? = some y→(P++ [x]++B++Q)[P.length+1+c]? = some y:=fun c y h=>at_A (A:=[x]) h
 have h0:Vb P B Q x 0=P++ [x]++B++Q:=insAt_0
 have hup:=fun (k:Nat) y (h:B[k]? = some y)=>insAt_up (P:=P) (Q:=Q) (x:=x) h
 have hfin:=fun (k:Nat) h1 h2=>ins_left (k:=k) ho hB h1 h2 P Q
 have hlen:∀ k,k≤B.length→(Vb P B Q x k).length=P.length+B.length+1+Q.length:=fun k h=>Nt h
 have hkx:∀ (c:Nat) z,B[c]? = some z→decide (cf z x<0)=lt z x:=fun c z h=>hk z (List.mem_of_getElem? h) x (by simp)
 have hmono:∀ (i j:Nat) z w,i≤j→B[i]? = some z→B[j]? = some w→lt w x=true→lt z x=true:=fun i j z w hij hz hw h=>by
  rcases JL (k:=0) hB hz hw hij with rfl|e
  ·exact h
  ·exact ho.tr z w x (by simp [List.mem_of_getElem? hz]) (by simp [List.mem_of_getElem? hw]) (by simp) e h
 have hs5:∀ x:Nr,(fNr x).length=3:=fun _=>rfl
 have hN:(P++ [x]++B++Q).length=P.length+B.length+1+Q.length:=by simp only[List.length_append,List.length_singleton];omega
 have hb:∃ b,P.length+1+B.length=b:=⟨_,rfl⟩
 obtain⟨b,hb⟩:=hb
 unfold Yt FRetH
 rw[QBH,hN]
 rw[hN]at hl
 rw[← h0]at gx gB ⊢
 generalize hT:P++QW lt ([x]++B)++Q=T at*
 generalize hF:Vb P B Q x=F at*
 generalize hNN:P.length+B.length+1+Q.length=N at*
 rw[hb]
 generalize hp:P.length=p at*
 generalize hn:B.length=n at*
 clear ho hB hk
 replace gx:=hide gx
 replace gB:=hide gB
 replace h0:=hide h0
 replace hup:=hide hup
 replace hfin:=hide hfin
 replace hlen:=hide hlen
 replace hkx:=hide hkx
 replace hmono:=hide hmono
 replace hs5:=hide hs5
 replace hT:=hide hT
 replace hF:=hide hF
 replace hcf:=hide hcf
 replace hN:=hide hN
 replace hn:=hide hn
 have hNb:b≤N:=by omega
 have w1:IntKind.i64.wrap (((p+1:Nat):Int) - (p:Int))=1:=by rw[QR]<;>omega
 replace hNN:=hide hNN
 replace hp:=hide hp
 replace hb:=hide hb
 unfold QJ
 refine FCall.of_ax Qp ?_
 dsimp only[jm,ji,jf,jl,jL,jn,je,jx,jT,jC,jB,jq,jt,ju,jA,km,kf,kl,kn,kx,Qh]
 refine zrs ?_
 repeat'(first|(simp -implicitDefEqProofs only[*,putS,zr,seval,reduceIte,reduceCtorEq])|(apply zk<;>intro hc)|(refine zp ?_)|(refine zd ?_)|fail)
 refine QK (S:=Nat × Nat) 220 [0,1,4] [100001] (fun s=>[(10,.f (.int .i64 ((p+1+s.1:Nat):Int))),(11,.f (.int .i64 ((p+1+s.2:Nat):Int)))]) (fun s=>[]) (fun s=>s.1≤s.2∧s.2≤n∧(∀ (c:Nat) y,c<s.1→B[c]? = some y→lt y x=true)∧(∀ (c:Nat) y,s.2≤c→B[c]? = some y→lt y x=false)) (fun s=>s.2 - s.1) (0,n) [] ?_ ?_ fun s hs=> ?_
 ·exact⟨Nat.zero_le _,Nat.le_refl _,fun m x h=>absurd h (by omega),fun m x h hx=>by have:=(List.getElem?_eq_some_iff.1 hx).1;have:=hn.out;dsimp only at h;omega⟩
 ·have e1:p+1+n=b:=hb.out
  rw[Nat.add_zero,e1]
  refine wk_i ?_ ?_<;>simp only[zw,seval,reduceIte,reduceCtorEq]
 obtain⟨i,j⟩:=s
 obtain⟨hij,hj,hlo,hhi⟩:=hs
 dsimp only at hij hj hlo hhi ⊢
 refine zrs ?_
 rcases Nat.lt_or_ge i j with hlt|hge
 ·have h2:=lt_t (show p+1+i<p+1+j by omega)
  obtain⟨hw1,hw2,hw3,hw4⟩:=halfW (i:=p+1+i) (j:=p+1+j) (by have:=hb.out;omega)
  have hw5:IntKind.i64.wrap ((((p+1+i+(p+1+j)) / 2:Nat):Int)+1)=((p+1+((i+j) / 2+1):Nat):Int):=by rw[QR]<;>(have:=hb.out;omega)
  have hmid:(p+1+i+(p+1+j)) / 2=p+1+(i+j) / 2:=by omega
  rw[hmid]at hw3 hw4 hw5
  obtain⟨z,hz⟩:=QH (l:=B) (i:=(i+j) / 2) (by have:=hn.out;omega)
  have gz:=gB.out _ z hz
  have hc0:=hkx.out _ z hz
  have hm1:=fun (c:Nat) y h h2=>hmono.out c ((i+j) / 2) y z h h2 hz
  have hm2:=fun (c:Nat) y h h2=>hmono.out ((i+j) / 2) c z y h hz h2
  have hld1:=XE (enc:=fNr) hs5.out gz
  have hld0:=XE (enc:=fNr) hs5.out gx.out
  have hFl0:=hlen.out 0 (Nat.zero_le _)
  have hin1:=XL (enc:=fNr) (l:=F 0) (i:=p+1+(i+j) / 2) hs5.out (by have:=hb.out;omega)
  have hin0:=XL (enc:=fNr) (l:=F 0) (i:=p) hs5.out (by have:=hb.out;omega)
  simp only[fNr,List.map_cons,List.map_nil,List.length_map,splice]at hld1 hld0 hin1 hin0
  have p1:(p+1+(i+j) / 2<N)=True:=by rw[eq_iff_iff,iff_true];have:=hb.out;omega
  have p2:(p<N)=True:=by rw[eq_iff_iff,iff_true];have:=hb.out;omega
  have p3:=YO (show p+1+(i+j) / 2+1≤N by have:=hb.out;omega)
  have p4:=YO (show p+1≤N by have:=hb.out;omega)
  have i1:i≤(i+j) / 2:=by omega
  have i2:(i+j) / 2<j:=by omega
  generalize (i+j) / 2=mid at*
  replace hz:=hide hz
  replace gz:=hide gz
  replace hm1:=hide hm1
  replace hm2:=hide hm2
  replace hlo:=hide hlo
  replace hhi:=hide hhi
  rcases hcc:lt z x with _|_
  ·rw[hcc]at hc0
   replace hcc:=hide hcc
   repeat'(first|(simp -implicitDefEqProofs only[*,zr,seval,reduceIte,reduceCtorEq])|(apply zk<;>intro hc)|(refine zp ?_)|(refine zd ?_)|(refine cP (hcf.out z x) ?_)|(refine cD (hcf.out z x) ?_)|(refine cF (hcf.out z x) ?_)|fail)
   refine⟨(i,mid),⟨by dsimp only;omega,by dsimp only;omega,hlo.out,fun c y h1 h3=> ?_⟩,by dsimp only;omega,?_⟩
   ·rcases hy:lt y x with _|_
    ·rfl
    ·have:=hm2.out c y h1 h3 hy
     rw[hcc.out]at this;cases this
   ·refine wk_i ?_ ?_<;>simp only[zw,seval,reduceIte,reduceCtorEq]
  ·rw[hcc]at hc0
   replace hcc:=hide hcc
   repeat'(first|(simp -implicitDefEqProofs only[*,zr,seval,reduceIte,reduceCtorEq])|(apply zk<;>intro hc)|(refine zp ?_)|(refine zd ?_)|(refine cP (hcf.out z x) ?_)|(refine cD (hcf.out z x) ?_)|(refine cF (hcf.out z x) ?_)|fail)
   refine⟨(mid+1,j),⟨by dsimp only;omega,by dsimp only;omega,fun c y h1 h3=>hm1.out c y (by dsimp only at h1;omega) h3 hcc.out,hhi.out⟩,by dsimp only;omega,?_⟩
   refine wk_i ?_ ?_<;>simp only[zw,seval,reduceIte,reduceCtorEq]
 ·obtain rfl:i=j:=by omega
  have h2:=lt_f (show p+1+i≥p+1+i by omega)
  have hF2:=hfin.out i hlo hhi
  replace hF2:=hide hF2
  clear hlo hhi
  have w2:IntKind.i64.wrap (((p+1+i:Nat):Int) - 1)=((p+i:Nat):Int):=by rw[QR]<;>(have:=hb.out;omega)
  repeat'(first|(simp -implicitDefEqProofs only[*,zr,seval,reduceIte,reduceCtorEq])|(apply zk<;>intro hc)|(refine zp ?_)|(refine zd ?_)|fail)
  refine QK (S:=Nat) 220 [0,10] [] (fun s=>[(13,.f (.int .i64 ((p+s:Nat):Int)))]) (fun s=>[(100001,1,.cells ((rowF fNr (F s)).map .f))]) (fun s=>s≤i) (fun s=>i - s) (0) [] ?_ ?_ fun s hs=> ?_
  ·exact Nat.zero_le _
  ·rw[Nat.add_zero p]
   refine wk_i ?_ ?_<;>simp only[zw,seval,reduceIte,reduceCtorEq]
  refine zrs ?_
  rcases Nat.lt_or_ge s i with hlt|hge
  ·obtain⟨y,hy⟩:=QH (l:=B) (i:=s) (by have:=hn.out;omega)
   obtain⟨q6,q7,q8⟩:=hup.out s y hy
   have h2:=lt_t (show p+s<p+i by omega)
   have hFl:=hlen.out s (by omega)
   have w3:IntKind.i64.wrap (((p+s:Nat):Int)+1)=((p+(s+1):Nat):Int):=by rw[QR]<;>(have:=hb.out;omega)
   have hi0:p+s<N:=by have:=hb.out;omega
   have hi1:p+(s+1)<N:=by have:=hb.out;omega
   rw[show p+s+1=p+(s+1) by omega]at q7 q8
   generalize hL':F (s+1)=L' at*
   generalize F s=L at*
   generalize hj1:p+(s+1)=i1 at*
   generalize p+s=i0 at*
   replace hL':=hide hL'
   replace hj1:=hide hj1
   have hld0:=XE (enc:=fNr) hs5.out q6
   have hld1:=XE (enc:=fNr) hs5.out q7
   have hin1:=XL (enc:=fNr) (l:=L) hs5.out (by omega:i1<L.length)
   have hin0:=XL (enc:=fNr) (l:=L) hs5.out (by omega:i0<L.length)
   have hst1:=ZS (enc:=fNr) (x:=y) (l:=L) hs5.out (by omega:i0<L.length)
   have hst2:=ZS (enc:=fNr) (x:=x) (l:=L.set i0 y) hs5.out (by rw[List.length_set];omega:i1<(L.set i0 y).length)
   have hin3:=XL (enc:=fNr) (l:=L.set i0 y) hs5.out (by rw[List.length_set];omega:i1<(L.set i0 y).length)
   rw[q8]at hst2
   simp only[fNr,List.map_cons,List.map_nil,List.length_map,splice]at hld1 hld0 hin1 hin0 hst1 hst2 hin3
   have p1:(i1<N)=True:=by rw[eq_iff_iff,iff_true];exact hi1
   have p2:(i0<N)=True:=by rw[eq_iff_iff,iff_true];exact hi0
   have p3:=YO (show i1+1≤N by omega)
   have p4:=YO (show i0+1≤N by omega)
   replace q6:=hide q6
   replace q7:=hide q7
   replace q8:=hide q8
   replace hy:=hide hy
   repeat'(first|(simp -implicitDefEqProofs only[*,zr,seval,reduceIte,reduceCtorEq])|(apply zk<;>intro hc)|(refine zp ?_)|(refine zd ?_)|fail)
   refine⟨s+1,hlt,by omega,?_⟩
   rw[hj1.out,hL'.out]
   refine wk_i ?_ ?_<;>simp only[zw,seval,reduceIte,reduceCtorEq]
  ·obtain rfl:s=i:=by omega
   have h2:=lt_f (show p+s≥p+s by omega)
   rw[hF2.out]
   repeat'(first|(simp -implicitDefEqProofs only[*,zr,seval,reduceIte,reduceCtorEq])|(apply zk<;>intro hc)|(refine zp ?_)|(refine zd ?_)|fail)
   exact⟨[],(rowF fNr T).map .f,rfl,rfl,QU _,rfl,by rw[QB];exact List.nodup_nil,by rw[QB];simp [idsS]⟩
theorem sym_right (P A Q:List Nr) (x:Nr) (lt:Nr→Nr→Bool) (cf:Nr→Nr→Int) (fn:FuncId) (hA2:2≤A.length) (hl:(P++A++ [x]++Q).length≤1000000)
  (hcf:∀ x y,FRet Tryz.prog fn [.agg ((fNr x).map .f),.agg ((fNr y).map .f)] [.c (.v (.int .i64 (cf x y)))]) (hA:Qk lt A) (ho:OrdOn lt (A++ [x])) (hk:∀ z∈[x],∀ y∈A,decide (cf z y<0)=lt z y) :
  Yt Tryz.prog 122 3 (P++A++ [x]++Q).length ((QJ (P++A++ [x]++Q)).map .v) [] [.f (.int .i64 P.length),.f (.int .i64 ((P.length+A.length:Nat):Int)),.f (.int .i64 ((P.length+A.length+1:Nat):Int)),.f (.fn (.func fn))] ((QJ (P++QW lt (A++ [x])++Q)).map .v) []:=by
 have gx:(P++A++ [x]++Q)[P.length+A.length]? = some x:=at_A (B:=[x]) (c:=0) rfl
 have gA:∀ (c:Nat) y,A[c]? = some y→(P++A++ [x]++Q)[P.length+c]? = some y:=fun c y h=>at_P (B:=[x]) h
 have h0:Vb P A Q x A.length=P++A++ [x]++Q:=by rw[QBE,List.append_assoc (P++A)];rfl
 have hup:=fun (k:Nat) y (h:A[k]? = some y)=>Mi (P:=P) (Q:=Q) (x:=x) h
 have hfin:=fun (k:Nat) h1 h2=>ins_right (k:=k) ho hA h1 h2 P Q
 have hlen:∀ k,k≤A.length→(Vb P A Q x k).length=P.length+A.length+1+Q.length:=fun k h=>Nt h
 have hkx:∀ (c:Nat) z,A[c]? = some z→decide (cf x z<0)=lt x z:=fun c z h=>hk x (by simp) z (List.mem_of_getElem? h)
 have hmono:∀ (i j:Nat) z w,i≤j→A[i]? = some z→A[j]? = some w→lt x z=true→lt x w=true:=fun i j z w hij hz hw h=>by
  rcases JL (k:=0) hA hz hw hij with rfl|e
  ·exact h
  ·exact ho.tr x z w (by simp) (by simp [List.mem_of_getElem? hz]) (by simp [List.mem_of_getElem? hw]) h e
 have hs5:∀ x:Nr,(fNr x).length=3:=fun _=>rfl
 have hN:(P++A++ [x]++Q).length=P.length+A.length+1+Q.length:=by simp only[List.length_append,List.length_singleton]
 unfold Yt FRetH
 rw[QBH,hN]
 rw[hN]at hl
 rw[← h0]at gx gA ⊢
 generalize hT:P++QW lt (A++ [x])++Q=T at*
 generalize hF:Vb P A Q x=F at*
 generalize hNN:P.length+A.length+1+Q.length=N at*
 generalize hp:P.length=p at*
 generalize hn:A.length=n at*
 clear ho hA hk
 replace gx:=hide gx
 replace gA:=hide gA
 replace h0:=hide h0
 replace hup:=hide hup
 replace hfin:=hide hfin
 replace hlen:=hide hlen
 replace hkx:=hide hkx
 replace hmono:=hide hmono
 replace hs5:=hide hs5
 replace hT:=hide hT
 replace hF:=hide hF
 replace hcf:=hide hcf
 replace hN:=hide hN
 replace hn:=hide hn
 have hNb:p+n<N:=by omega
 have w1:IntKind.i64.wrap (((p+n:Nat):Int) - (p:Int))=(n:Int):=by rw[QR]<;>omega
 have w0:IntKind.i64.wrap (((p+n+1:Nat):Int) - ((p+n:Nat):Int))=1:=by rw[QR]<;>omega
 have d0:decide ((n:Int)=1)=false:=dcF (by omega)
 have d00:decide (n=1)=false:=dcF (by omega)
 replace hNN:=hide hNN
 replace hp:=hide hp
 unfold QJ
 refine FCall.of_ax Qp ?_
 dsimp only[jm,ji,jf,jl,jL,jn,je,jx,jT,jC,jB,jq,jt,ju,jA,km,kf,kl,kn,kx,Qh]
 refine zrs ?_
 repeat'(first|(simp -implicitDefEqProofs only[*,putS,zr,seval,reduceIte,reduceCtorEq])|(apply zk<;>intro hc)|(refine zp ?_)|(refine zd ?_)|fail)
 refine QK (S:=Nat × Nat) 220 [0,2,4] [100001] (fun s=>[(14,.f (.int .i64 ((p+s.1:Nat):Int))),(15,.f (.int .i64 ((p+s.2:Nat):Int)))]) (fun s=>[]) (fun s=>s.1≤s.2∧s.2≤n∧(∀ (c:Nat) y,c<s.1→A[c]? = some y→lt x y=false)∧(∀ (c:Nat) y,s.2≤c→A[c]? = some y→lt x y=true)) (fun s=>s.2 - s.1) (0,n) [] ?_ ?_ fun s hs=> ?_
 ·exact⟨Nat.zero_le _,Nat.le_refl _,fun m x h=>absurd h (by omega),fun m x h hx=>by have:=(List.getElem?_eq_some_iff.1 hx).1;have:=hn.out;dsimp only at h;omega⟩
 ·rw[Nat.add_zero p]
  refine wk_i ?_ ?_<;>simp only[zw,seval,reduceIte,reduceCtorEq]
 obtain⟨i,j⟩:=s
 obtain⟨hij,hj,hlo,hhi⟩:=hs
 dsimp only at hij hj hlo hhi ⊢
 refine zrs ?_
 rcases Nat.lt_or_ge i j with hlt|hge
 ·have h2:=lt_t (show p+i<p+j by omega)
  obtain⟨hw1,hw2,hw3,hw4⟩:=halfW (i:=p+i) (j:=p+j) (by omega)
  have hw5:IntKind.i64.wrap ((((p+i+(p+j)) / 2:Nat):Int)+1)=((p+((i+j) / 2+1):Nat):Int):=by rw[QR]<;>omega
  have hmid:(p+i+(p+j)) / 2=p+(i+j) / 2:=by omega
  rw[hmid]at hw3 hw4 hw5
  obtain⟨z,hz⟩:=QH (l:=A) (i:=(i+j) / 2) (by have:=hn.out;omega)
  have gz:=gA.out _ z hz
  have hc0:=hkx.out _ z hz
  have hm1:=fun (c:Nat) y h h2=>hmono.out c ((i+j) / 2) y z h h2 hz
  have hm2:=fun (c:Nat) y h h2=>hmono.out ((i+j) / 2) c z y h hz h2
  have hld1:=XE (enc:=fNr) hs5.out gz
  have hld0:=XE (enc:=fNr) hs5.out gx.out
  have hFl0:=hlen.out n (Nat.le_refl _)
  have hin1:=XL (enc:=fNr) (l:=F n) (i:=p+(i+j) / 2) hs5.out (by omega)
  have hin0:=XL (enc:=fNr) (l:=F n) (i:=p+n) hs5.out (by omega)
  simp only[fNr,List.map_cons,List.map_nil,List.length_map,splice]at hld1 hld0 hin1 hin0
  have p1:(p+(i+j) / 2<N)=True:=by rw[eq_iff_iff,iff_true];omega
  have p2:(p+n<N)=True:=by rw[eq_iff_iff,iff_true];omega
  have p3:=YO (show p+(i+j) / 2+1≤N by omega)
  have p4:=YO (show p+n+1≤N by omega)
  have i1:i≤(i+j) / 2:=by omega
  have i2:(i+j) / 2<j:=by omega
  generalize (i+j) / 2=mid at*
  replace hz:=hide hz
  replace gz:=hide gz
  replace hm1:=hide hm1
  replace hm2:=hide hm2
  replace hlo:=hide hlo
  replace hhi:=hide hhi
  rcases hcc:lt x z with _|_
  ·rw[hcc]at hc0
   replace hcc:=hide hcc
   repeat'(first|(simp -implicitDefEqProofs only[*,zr,seval,reduceIte,reduceCtorEq])|(apply zk<;>intro hc)|(refine zp ?_)|(refine zd ?_)|(refine cP (hcf.out x z) ?_)|(refine cD (hcf.out x z) ?_)|(refine cF (hcf.out x z) ?_)|fail)
   refine⟨(mid+1,j),⟨by dsimp only;omega,by dsimp only;omega,fun c y h1 h3=> ?_,hhi.out⟩,by dsimp only;omega,?_⟩
   ·rcases hy:lt x y with _|_
    ·rfl
    ·have:=hm1.out c y (by dsimp only at h1;omega) h3 hy
     rw[hcc.out]at this;cases this
   ·refine wk_i ?_ ?_<;>simp only[zw,seval,reduceIte,reduceCtorEq]
  ·rw[hcc]at hc0
   replace hcc:=hide hcc
   repeat'(first|(simp -implicitDefEqProofs only[*,zr,seval,reduceIte,reduceCtorEq])|(apply zk<;>intro hc)|(refine zp ?_)|(refine zd ?_)|(refine cP (hcf.out x z) ?_)|(refine cD (hcf.out x z) ?_)|(refine cF (hcf.out x z) ?_)|fail)
   refine⟨(i,mid),⟨by dsimp only;omega,by dsimp only;omega,hlo.out,fun c y h1 h3=>hm2.out c y h1 h3 hcc.out⟩,by dsimp only;omega,?_⟩
   refine wk_i ?_ ?_<;>simp only[zw,seval,reduceIte,reduceCtorEq]
 ·obtain rfl:i=j:=by omega
  have h2:=lt_f (show p+i≥p+i by omega)
  have hF2:=hfin.out i hlo hhi
  replace hF2:=hide hF2
  clear hlo hhi
  repeat'(first|(simp -implicitDefEqProofs only[*,zr,seval,reduceIte,reduceCtorEq])|(apply zk<;>intro hc)|(refine zp ?_)|(refine zd ?_)|fail)
  refine QK (S:=Nat) 220 [0,14] [] (fun s=>[(17,.f (.int .i64 ((p+s:Nat):Int)))]) (fun s=>[(100001,1,.cells ((rowF fNr (F s)).map .f))]) (fun s=>i≤s∧s≤n) (fun s=>s) (n) [] ?_ ?_ fun s hs=> ?_
  ·exact⟨hj,Nat.le_refl _⟩
  ·refine wk_i ?_ ?_<;>simp only[zw,seval,reduceIte,reduceCtorEq]
  refine zrs ?_
  obtain⟨hs1,hs2⟩:=hs
  rcases Nat.eq_or_lt_of_le hs1 with rfl|hlt
  ·have d1:decide (((p+i:Nat):Int) > ((p+i:Nat):Int))=false:=dcF (by omega)
   have d3:decide (p+i<p+i)=false:=dcF (by omega)
   rw[hF2.out]
   repeat'(first|(simp -implicitDefEqProofs only[*,zr,seval,reduceIte,reduceCtorEq])|(apply zk<;>intro hc)|(refine zp ?_)|(refine zd ?_)|fail)
   exact⟨[],(rowF fNr T).map .f,rfl,rfl,QU _,rfl,by rw[QB];exact List.nodup_nil,by rw[QB];simp [idsS]⟩
  ·obtain⟨t,rfl⟩:∃ t,s=t+1:=⟨s - 1,by omega⟩
   obtain⟨y,hy⟩:=QH (l:=A) (i:=t) (by have:=hn.out;omega)
   obtain⟨q6,q7,q8⟩:=hup.out t y hy
   have d1:decide (((p+(t+1):Nat):Int) > ((p+i:Nat):Int))=true:=dcT (by omega)
   have d2:decide (((p+i:Nat):Int)<((p+(t+1):Nat):Int))=true:=dcT (by omega)
   have d3:decide (p+i<p+(t+1))=true:=dcT (by omega)
   have hFl:=hlen.out (t+1) (by omega)
   have w3:IntKind.i64.wrap (((p+(t+1):Nat):Int) - 1)=((p+t:Nat):Int):=by rw[QR]<;>omega
   have hi0:p+t<N:=by omega
   have hi1:p+(t+1)<N:=by omega
   generalize hL':F t=L' at*
   generalize F (t+1)=L at*
   generalize p+(t+1)=i1 at*
   generalize hj0:p+t=i0 at*
   replace hL':=hide hL'
   replace hj0:=hide hj0
   have hld0:=XE (enc:=fNr) hs5.out q6
   have hld1:=XE (enc:=fNr) hs5.out q7
   have hin1:=XL (enc:=fNr) (l:=L) hs5.out (by omega:i1<L.length)
   have hin0:=XL (enc:=fNr) (l:=L) hs5.out (by omega:i0<L.length)
   have hst1:=ZS (enc:=fNr) (x:=y) (l:=L) hs5.out (by omega:i1<L.length)
   have hst2:=ZS (enc:=fNr) (x:=x) (l:=L.set i1 y) hs5.out (by rw[List.length_set];omega:i0<(L.set i1 y).length)
   have hin3:=XL (enc:=fNr) (l:=L.set i1 y) hs5.out (by rw[List.length_set];omega:i0<(L.set i1 y).length)
   rw[q8]at hst2
   simp only[fNr,List.map_cons,List.map_nil,List.length_map,splice]at hld1 hld0 hin1 hin0 hst1 hst2 hin3
   have p1:(i1<N)=True:=by rw[eq_iff_iff,iff_true];exact hi1
   have p2:(i0<N)=True:=by rw[eq_iff_iff,iff_true];exact hi0
   have p3:=YO (show i1+1≤N by omega)
   have p4:=YO (show i0+1≤N by omega)
   replace q6:=hide q6
   replace q7:=hide q7
   replace q8:=hide q8
   replace hy:=hide hy
   repeat'(first|(simp -implicitDefEqProofs only[*,zr,seval,reduceIte,reduceCtorEq])|(apply zk<;>intro hc)|(refine zp ?_)|(refine zd ?_)|fail)
   refine⟨t,⟨by omega,by omega⟩,by omega,?_⟩
   rw[hj0.out,hL'.out]
   refine wk_i ?_ ?_<;>simp only[zw,seval,reduceIte,reduceCtorEq]
def SymR (fn:FuncId) (N a m b:Nat) (M T:List Nr):Prop:=Yt Tryz.prog 122 3 N ((QJ M).map .v) [] [.f (.int .i64 a),.f (.int .i64 m),.f (.int .i64 b),.f (.fn (.func fn))] ((QJ T).map .v) []
def RotR (fn:FuncId) (N a m b:Nat) (M T:List Nr):Prop:=Yt Tryz.prog 139 3 N ((QJ M).map .v) [] [.f (.int .i64 a),.f (.int .i64 m),.f (.int .i64 b),.f (.fn (.func fn))] ((QJ T).map .v) []
def SymAll (lt:Nr→Nr→Bool) (cf:Nr→Nr→Int) (fn:FuncId) (k:Nat):Prop:=∀ P A B Q:List Nr,A.length+B.length<k→0<A.length→0<B.length→Qk lt A→Qk lt B→OrdOn lt (A++B)→(∀ z∈B,∀ y∈A,decide (cf z y<0)=lt z y)→(P++A++B++Q).length≤1000000→
 SymR fn (P++A++B++Q).length P.length (P.length+A.length) (P.length+A.length+B.length) (P++A++B++Q) (P++QW lt (A++B)++Q)
theorem sym_parts {lt:Nr→Nr→Bool}{cf:Nr→Nr→Int}{fn:FuncId}{k:Nat}(IH:SymAll lt cf fn k) (P A B Q:List Nr) (hk:A.length+B.length=k) (hA:Qk lt A) (hB:Qk lt B) (ho:OrdOn lt (A++B)) (hc:∀ z∈B,∀ y∈A,decide (cf z y<0)=lt z y) (hl:(P++A++B++Q).length≤1000000)
  {i d:Nat}(hi:i≤A.length) (hd:d≤B.length) (hg0:0<i+d) (hg1:i+d<k) (hp:QW lt (A++B)=QW lt (A.take i++B.take d)++QW lt (A.drop i++B.drop d)) :
  ∃ M1 M2:List Nr,(i<A.length→0<d→RotR fn (P++A++B++Q).length (P.length+i) (P.length+A.length) (P.length+A.length+d) (P++A++B++Q) M1)∧(¬ (i<A.length∧0<d)→P++A++B++Q=M1)∧
   (0<i→0<d→SymR fn (P++A++B++Q).length P.length (P.length+i) (P.length+(i+d)) M1 M2)∧(¬ (0<i∧0<d)→M1=M2)∧
   (i<A.length→d<B.length→SymR fn (P++A++B++Q).length (P.length+(i+d)) (P.length+A.length+d) (P.length+A.length+B.length) M2 (P++QW lt (A++B)++Q))∧(¬ (i<A.length∧d<B.length)→M2=P++QW lt (A++B)++Q):=by
 have hA':Qk lt (A.take i++A.drop i):=by rw[List.take_append_drop];exact hA
 have hB':Qk lt (B.take d++B.drop d):=by rw[List.take_append_drop];exact hB
 obtain⟨a1,a2,-⟩:=List.pairwise_append.1 hA'
 obtain⟨b1,b2,-⟩:=List.pairwise_append.1 hB'
 have o1:OrdOn lt (A.take i++B.take d):=ho.sub ((List.take_sublist _ _).append (List.take_sublist _ _))
 have o2:OrdOn lt (A.drop i++B.drop d):=ho.sub ((List.drop_sublist _ _).append (List.drop_sublist _ _))
 have lA:(A.take i).length=i:=by rw[List.length_take];omega
 have lB:(B.take d).length=d:=by rw[List.length_take];omega
 have lA2:(A.drop i).length=A.length - i:=List.length_drop
 have lB2:(B.drop d).length=B.length - d:=List.length_drop
 have hN:(P++A++B++Q).length=P.length+A.length+B.length+Q.length:=by simp only[List.length_append]
 have lS:(QW lt (A.take i++B.take d)).length=i+d:=by rw[(QV lt _).length_eq,List.length_append,lA,lB]
 have e1:P++(A.take i++B.take d)++(A.drop i++B.drop d)++Q=P++A.take i++B.take d++((A.drop i++B.drop d)++Q):=by simp only[List.append_assoc]
 have e2:P++QW lt (A.take i++B.take d)++((A.drop i++B.drop d)++Q)=(P++QW lt (A.take i++B.take d))++A.drop i++B.drop d++Q:=by simp only[List.append_assoc]
 have e3:(P++QW lt (A.take i++B.take d))++QW lt (A.drop i++B.drop d)++Q=P++QW lt (A++B)++Q:=by rw[hp];simp only[List.append_assoc]
 have n1:(P++A.take i++B.take d++((A.drop i++B.drop d)++Q)).length=(P++A++B++Q).length:=by simp only[List.length_append,lA,lB,lA2,lB2];omega
 have n2:((P++QW lt (A.take i++B.take d))++A.drop i++B.drop d++Q).length=(P++A++B++Q).length:=by simp only[List.length_append,lS,lA2,lB2];omega
 refine⟨P++(A.take i++B.take d)++(A.drop i++B.drop d)++Q,P++QW lt (A.take i++B.take d)++((A.drop i++B.drop d)++Q),fun h1 h2=> ?_,fun h=> ?_,fun h1 h2=> ?_,fun h=> ?_,fun h1 h2=> ?_,fun h=> ?_⟩
 ·have:=rotate_f (P++A++B++Q) (P.length+i) (P.length+A.length) (P.length+A.length+d) (by omega) (by omega) (by omega) hl fn
  rw[rot_PABQ hi hd]at this
  exact this
 ·exact same_PABQ (by omega)
 ·have:=IH P (A.take i) (B.take d) ((A.drop i++B.drop d)++Q) (by omega) (by omega) (by omega) a1 b1 o1 (fun z hz y hy=>hc z (List.mem_of_mem_take hz) y (List.mem_of_mem_take hy)) (by rw[n1];exact hl)
  rw[lA,lB,n1,← e1,Nat.add_assoc]at this
  exact this
 ·have hs:Qk lt (A.take i++B.take d):=by
   rcases Nat.eq_zero_or_pos i with rfl|h1
   ·rw[List.take_zero,List.nil_append];exact b1
   ·obtain rfl:d=0:=by omega
    rw[List.take_zero,List.append_nil];exact a1
  rw[OE o1 hs,e1]
  simp only[List.append_assoc]
 ·have:=IH (P++QW lt (A.take i++B.take d)) (A.drop i) (B.drop d) Q (by omega) (by omega) (by omega) a2 b2 o2 (fun z hz y hy=>hc z (List.mem_of_mem_drop hz) y (List.mem_of_mem_drop hy)) (by rw[n2];exact hl)
  have l2:(P++QW lt (A.take i++B.take d)).length=P.length+(i+d):=by rw[List.length_append,lS]
  rw[e3,n2,← e2,l2,lA2,lB2,show P.length+(i+d)+(A.length - i)=P.length+A.length+d by omega,show P.length+A.length+d+(B.length - d)=P.length+A.length+B.length by omega]at this
  exact this
 ·have hs:Qk lt (A.drop i++B.drop d):=by
   rcases Nat.lt_or_ge i A.length with h1|h1
   ·obtain rfl:d=B.length:=by omega
    rw[List.drop_length,List.append_nil];exact a2
   ·rw[List.drop_of_length_le h1,List.nil_append];exact b2
  rw[← e3,OE o2 hs,e2]
  simp only[List.append_assoc]
theorem sym_split {lt:Nr→Nr→Bool}{A B:List Nr}{g s0 e0 i:Nat}(hA:Qk lt A) (hB:Qk lt B) (ho:OrdOn lt (A++B)) (h0:s0≤i) (h1:i≤e0) (h2:e0≤g) (h3:e0≤A.length) (h4:g≤s0+B.length) (h5:s0=0∨s0+B.length=g) (h6:e0=g∨e0=A.length)
  (hlo:∀ (c:Nat) x y,s0≤c→c<i→B[g - 1 - c]? = some x→A[c]? = some y→lt x y=false) (hhi:∀ (c:Nat) x y,i≤c→c<e0→B[g - 1 - c]? = some x→A[c]? = some y→lt x y=true) :
  QW lt (A++B)=QW lt (A.take i++B.take (g - i))++QW lt (A.drop i++B.drop (g - i)):=by
 refine split_ok (by omega) (by omega) ho hA hB (fun x y hi hx hy=> ?_) (fun x y hd hx hy=> ?_)
 ·have l1:=(List.getElem?_eq_some_iff.1 hy).1
  exact hlo (i - 1) y x (by omega) (by omega) (by rw[show g - 1 - (i - 1)=g - i by omega];exact hy) hx
 ·have l1:=(List.getElem?_eq_some_iff.1 hy).1
  exact hhi i x y (by omega) (by omega) (by rw[show g - 1 - i=g - i - 1 by omega];exact hx) hy
set_option maxHeartbeats 4000000 in
theorem sym_gen (P A B Q:List Nr) (lt:Nr→Nr→Bool) (cf:Nr→Nr→Int) (fn:FuncId){k:Nat}(IH:SymAll lt cf fn k) (hk:A.length+B.length=k) (hA2:2≤A.length) (hB2:2≤B.length) (hl:(P++A++B++Q).length≤1000000)
  (hcf:∀ x y,FRet Tryz.prog fn [.agg ((fNr x).map .f),.agg ((fNr y).map .f)] [.c (.v (.int .i64 (cf x y)))]) (hA:Qk lt A) (hB:Qk lt B) (ho:OrdOn lt (A++B)) (hc:∀ z∈B,∀ y∈A,decide (cf z y<0)=lt z y) :
  SymR fn (P++A++B++Q).length P.length (P.length+A.length) (P.length+A.length+B.length) (P++A++B++Q) (P++QW lt (A++B)++Q):=by
 have gA:∀ (c:Nat) y,A[c]? = some y→(P++A++B++Q)[P.length+c]? = some y:=fun c y h=>at_P h
 have gB:∀ (c:Nat) y,B[c]? = some y→(P++A++B++Q)[P.length+A.length+c]? = some y:=fun c y h=>at_A h
 have hcx:∀ (c c':Nat) x y,B[c]? = some x→A[c']? = some y→decide (cf x y<0)=lt x y:=fun c c' x y h1 h2=>hc x (List.mem_of_getElem? h1) y (List.mem_of_getElem? h2)
 have hmono:∀ (c c' d d':Nat) x x' y y',d'≤d→c≤c'→B[d]? = some x→A[c]? = some y→B[d']? = some x'→A[c']? = some y'→lt x y=true→lt x' y'=true:=by
  intro c c' d d' x x' y y' hd hcc h1 h2 h3 h4 h5
  have m1:=List.mem_of_getElem? h1
  have m2:=List.mem_of_getElem? h2
  have m3:=List.mem_of_getElem? h3
  have m4:=List.mem_of_getElem? h4
  have e1:lt x' y=true:=by
   rcases JL (k:=0) hB h3 h1 hd with rfl|e
   ·exact h5
   ·exact ho.tr x' x y (by simp [m3]) (by simp [m1]) (by simp [m2]) e h5
  rcases JL (k:=0) hA h2 h4 hcc with rfl|e
  ·exact e1
  ·exact ho.tr x' y y' (by simp [m3]) (by simp [m2]) (by simp [m4]) e1 e
 have hparts:=fun (i d:Nat) h1 h2 h3 h4 h5=>sym_parts IH P A B Q hk hA hB ho hc hl (i:=i) (d:=d) h1 h2 h3 h4 h5
 have hsplit:=fun (g s0 e0 i:Nat) h0 h1 h2 h3 h4 h5 h6 h7 h8=>sym_split (g:=g) (s0:=s0) (e0:=e0) (i:=i) hA hB ho h0 h1 h2 h3 h4 h5 h6 h7 h8
 have hs5:∀ x:Nr,(fNr x).length=3:=fun _=>rfl
 have hN:(P++A++B++Q).length=P.length+A.length+B.length+Q.length:=by simp only[List.length_append]
 have hNb:P.length+A.length+B.length≤(P++A++B++Q).length:=by omega
 unfold SymR Yt FRetH
 rw[QBH]
 generalize hM:P++A++B++Q=M at*
 generalize hT:P++QW lt (A++B)++Q=T at*
 generalize hn:A.length=n at*
 generalize hr:B.length=r at*
 generalize hp:P.length=p at*
 generalize hNN:M.length=N at*
 obtain⟨g,hg⟩:∃ g,(n+r) / 2=g:=⟨_,rfl⟩
 have hmid:(p+(p+n+r)) / 2=p+g:=by omega
 clear ho hA hB hc IH hN
 replace gA:=hide gA
 replace gB:=hide gB
 replace hcx:=hide hcx
 replace hmono:=hide hmono
 replace hparts:=hide hparts
 replace hsplit:=hide hsplit
 replace hs5:=hide hs5
 replace hM:=hide hM
 replace hT:=hide hT
 replace hcf:=hide hcf
 replace hn:=hide hn
 replace hr:=hide hr
 replace hp:=hide hp
 replace hNN:=hide hNN
 have w1:IntKind.i64.wrap (((p+n:Nat):Int) - (p:Int))=(n:Int):=by rw[QR]<;>omega
 have w2:IntKind.i64.wrap (((p+n+r:Nat):Int) - ((p+n:Nat):Int))=(r:Int):=by rw[QR]<;>omega
 have d1:decide ((n:Int)=1)=false:=dcF (by omega)
 have d2:decide (n=1)=false:=dcF (by omega)
 have d3:decide ((r:Int)=1)=false:=dcF (by omega)
 have d4:decide (r=1)=false:=dcF (by omega)
 obtain⟨ha1,ha2,ha3,ha4⟩:=halfW (i:=p) (j:=p+n+r) (by omega)
 rw[hmid]at ha3 ha4
 have w3:IntKind.i64.wrap (((p+g:Nat):Int)+((p+n:Nat):Int))=((p+g+(p+n):Nat):Int):=by rw[QR]<;>omega
 have w4:IntKind.i64.wrap (((p+g+(p+n):Nat):Int) - 1)=((p+g+(p+n) - 1:Nat):Int):=by rw[QR]<;>omega
 obtain⟨s0,e0,z1,z2,z3,z4,z5,z6,z7,z8,z9,hcase⟩:∃ s0 e0:Nat,s0≤e0∧e0≤g∧e0≤n∧g≤s0+r∧(s0=0∨s0+r=g)∧(e0=g∨e0=n)∧0<g∧1≤e0∧(s0<g)∧((decide (p+n > p+g)=true∧IntKind.i64.wrap (((p+g+(p+n):Nat):Int) - ((p+n+r:Nat):Int))=((p+s0:Nat):Int)∧p+e0=p+g)∨(decide (p+n > p+g)=false∧p+s0=p∧p+e0=p+n)):=by
  rcases Nat.lt_or_ge g n with h|h
  ·exact⟨g - r,g,by omega,by omega,by omega,by omega,by omega,by omega,by omega,by omega,by omega,Or.inl ⟨dcT (by omega),by rw[QR]<;>omega,rfl⟩⟩
  ·exact⟨0,n,by omega,by omega,by omega,by omega,by omega,by omega,by omega,by omega,by omega,Or.inr ⟨dcF (by omega),rfl,rfl⟩⟩
 replace z5:=hide z5
 replace z6:=hide z6
 replace hmid:=hide hmid
 replace hg:=hide hg
 replace hcase:=hide hcase
 unfold QJ
 refine FCall.of_ax Qp ?_
 dsimp only[jm,ji,jf,jl,jL,jn,je,jx,jT,jC,jB,jq,jt,ju,jA,km,kf,kl,kn,kx,Qh]
 refine zrs ?_
 rcases hcase.out with⟨c1,c2,c3⟩|⟨c1,c2,c3⟩
 ·simp only[gt_iff_lt]at c1
  replace c3:=hide c3
  repeat'(first|(simp -implicitDefEqProofs only[*,putS,zr,seval,reduceIte,reduceCtorEq])|(apply zk<;>intro hc)|(refine zp ?_)|(refine zd ?_)|fail)
  have ex1:Hide (p+s0=p+s0):=hide rfl
  clear c2
  refine QK (S:=Nat × Nat) 220 [0,1,2,3,4,18,19,22] [100001] (fun s=>[(20,.f (.int .i64 ((p+s.1:Nat):Int))),(21,.f (.int .i64 ((p+s.2:Nat):Int)))]) (fun s=>[]) (fun s=>s0≤s.1∧s.1≤s.2∧s.2≤e0∧(∀ (c:Nat) x y,s0≤c→c<s.1→B[g - 1 - c]? = some x→A[c]? = some y→lt x y=false)∧(∀ (c:Nat) x y,s.2≤c→c<e0→B[g - 1 - c]? = some x→A[c]? = some y→lt x y=true)) (fun s=>s.2 - s.1) (s0,e0) [] ?_ ?_ fun s hs=> ?_
  ·exact⟨Nat.le_refl _,z1,Nat.le_refl _,fun c x y h1 h2=>absurd h2 (by dsimp only;omega),fun c x y h1 h2=>absurd h2 (by dsimp only at h1;omega)⟩
  ·rw[c3.out]
   try rw[ex1.out]
   refine wk_i ?_ ?_<;>simp only[zw,seval,reduceIte,reduceCtorEq]
  obtain⟨i,j⟩:=s
  obtain⟨hs0,hij,hj,hlo,hhi⟩:=hs
  dsimp only at hs0 hij hj hlo hhi ⊢
  refine zrs ?_
  rcases Nat.lt_or_ge i j with hlt|hge
  ·have h2:=lt_t (show p+i<p+j by omega)
   obtain⟨hw1,hw2,hw3,hw4⟩:=halfW (i:=p+i) (j:=p+j) (by omega)
   have hw5:IntKind.i64.wrap ((((p+i+(p+j)) / 2:Nat):Int)+1)=((p+((i+j) / 2+1):Nat):Int):=by rw[QR]<;>omega
   have hmd:(p+i+(p+j)) / 2=p+(i+j) / 2:=by omega
   have i1:i≤(i+j) / 2:=by omega
   have i2:(i+j) / 2<j:=by omega
   rw[hmd]at hw3 hw4 hw5
   clear hmd
   generalize (i+j) / 2=mid at*
   have hw6:IntKind.i64.wrap (((p+g+(p+n) - 1:Nat):Int) - ((p+mid:Nat):Int))=((p+n+(g - 1 - mid):Nat):Int):=by rw[QR]<;>omega
   obtain⟨y,hy⟩:=QH (l:=A) (i:=mid) (by have:=hn.out;omega)
   obtain⟨x,hx⟩:=QH (l:=B) (i:=g - 1 - mid) (by have:=hr.out;omega)
   have hc0:=hcx.out _ _ x y hx hy
   have hm1:=fun (c:Nat) x' y' (h:c≤mid) h1 h2=>hmono.out c mid (g - 1 - c) (g - 1 - mid) x' x y' y (by omega) h h1 h2 hx hy
   have hm2:=fun (c:Nat) x' y' (h:mid≤c) h1 h2=>hmono.out mid c (g - 1 - mid) (g - 1 - c) x x' y y' (by omega) h hx hy h1 h2
   have hld1:=XE (enc:=fNr) hs5.out (gA.out _ y hy)
   have hld0:=XE (enc:=fNr) hs5.out (gB.out _ x hx)
   have hin1:=XL (enc:=fNr) (l:=M) (i:=p+mid) hs5.out (by have:=hNN.out;omega)
   have hin0:=XL (enc:=fNr) (l:=M) (i:=p+n+(g - 1 - mid)) hs5.out (by have:=hNN.out;omega)
   simp only[fNr,List.map_cons,List.map_nil,List.length_map,splice]at hld1 hld0 hin1 hin0
   have p1:(p+mid<N)=True:=by rw[eq_iff_iff,iff_true];omega
   have p2:(p+n+(g - 1 - mid)<N)=True:=by rw[eq_iff_iff,iff_true];omega
   have p3:=YO (show p+mid+1≤N by omega)
   have p4:=YO (show p+n+(g - 1 - mid)+1≤N by omega)
   replace hx:=hide hx
   replace hy:=hide hy
   replace hm1:=hide hm1
   replace hm2:=hide hm2
   replace hlo:=hide hlo
   replace hhi:=hide hhi
   rcases hcc:lt x y with _|_
   ·rw[hcc]at hc0
    replace hcc:=hide hcc
    repeat'(first|(simp -implicitDefEqProofs only[*,zr,seval,reduceIte,reduceCtorEq])|(apply zk<;>intro hc)|(refine zp ?_)|(refine zd ?_)|(refine cP (hcf.out x y) ?_)|(refine cD (hcf.out x y) ?_)|(refine cF (hcf.out x y) ?_)|fail)
    refine⟨(mid+1,j),⟨by dsimp only;omega,by dsimp only;omega,by dsimp only;omega,fun c x' y' h0 h1 h3 h4=> ?_,hhi.out⟩,by dsimp only;omega,?_⟩
    ·rcases hxy:lt x' y' with _|_
     ·rfl
     ·have:=hm1.out c x' y' (by dsimp only at h1;omega) h3 h4 hxy
      rw[hcc.out]at this;cases this
    ·refine wk_i ?_ ?_<;>simp only[zw,seval,reduceIte,reduceCtorEq]
   ·rw[hcc]at hc0
    replace hcc:=hide hcc
    repeat'(first|(simp -implicitDefEqProofs only[*,zr,seval,reduceIte,reduceCtorEq])|(apply zk<;>intro hc)|(refine zp ?_)|(refine zd ?_)|(refine cP (hcf.out x y) ?_)|(refine cD (hcf.out x y) ?_)|(refine cF (hcf.out x y) ?_)|fail)
    refine⟨(i,mid),⟨by dsimp only;omega,by dsimp only;omega,by dsimp only;omega,hlo.out,fun c x' y' h0 h1 h3 h4=>hm2.out c x' y' h0 h3 h4 hcc.out⟩,by dsimp only;omega,?_⟩
    refine wk_i ?_ ?_<;>simp only[zw,seval,reduceIte,reduceCtorEq]
  ·obtain rfl:i=j:=by omega
   have h2:=lt_f (show p+i≥p+i by omega)
   have hsp:=hsplit.out g s0 e0 i hs0 hj z2 z3 z4 z5.out z6.out hlo hhi
   obtain⟨d,hd⟩:∃ d,g - i=d:=⟨_,rfl⟩
   have hgd:i+d=g:=by omega
   rw[hd]at hsp
   obtain⟨M1,M2,t1,t2,t3,t4,t5,t6⟩:=hparts.out i d (by omega) (by omega) (by omega) (by have:=hg.out;omega) hsp
   rw[hgd]at t3 t5
   clear hsp hlo hhi
   have w5:IntKind.i64.wrap (((p+g+(p+n):Nat):Int) - ((p+i:Nat):Int))=((p+n+d:Nat):Int):=by rw[QR]<;>omega
   have hg2:=hg.out
   replace hd:=hide hd
   replace hgd:=hide hgd
   replace hg2:=hide hg2
   replace c3:=hide c3
   replace ex1:=hide ex1
   rcases Nat.lt_or_ge i n with X|X
   ·have f1:=lt_t (show p+i<p+n by omega)
    have f5:=lt_t (show p+g<p+n+d by have:=hgd.out;omega)
    rcases Nat.eq_zero_or_pos d with Y|Y
    ·have f2:=lt_f (show p+n≥p+n+d by omega)
     have f3:=lt_t (show p<p+i by have:=hgd.out;omega)
     have f4:=lt_f (show p+i≥p+g by have:=hgd.out;omega)
     have f6:=lt_t (show p+n+d<p+n+r by omega)
     have E1:=t2 (by omega)
     have E2:=t4 (by omega)
     subst E1 E2
     have hS:=t5 X (by omega)
     clear t1 t2 t3 t4 t5 t6
     try replace Y:=hide Y
     try replace Z:=hide Z
     repeat'(first|(simp -implicitDefEqProofs only[*,zr,seval,reduceIte,reduceCtorEq])|(apply zk<;>intro hc)|(refine zp ?_)|(refine zd ?_)|fail)
     refine VW (by omega) rfl hS rfl 100001 1 ((QJ _).map .f) [] [_,_,_,_] rfl rfl (QU _) rfl (by rw[QB];exact List.nodup_nil) (by rw[QB];simp [idsS]) (LeL.refl _) rfl (by repeat (first|exact QQ (by simp)|refine Qa rfl ?_)) ?_
     rw[Qe,QX,QB]
     unfold QJ
     repeat'(first|(simp -implicitDefEqProofs only[*,zr,seval,reduceIte,reduceCtorEq])|(apply zk<;>intro hc)|(refine zp ?_)|(refine zd ?_)|fail)
     exact⟨[],(rowF fNr _).map .f,rfl,rfl,QU _,rfl,by rw[QB];exact List.nodup_nil,by rw[QB];simp [idsS]⟩
    ·have f2:=lt_t (show p+n<p+n+d by omega)
     have hR:=t1 X Y
     rcases Nat.eq_zero_or_pos i with Z|Z
     ·have f3:=lt_f (show p≥p+i by omega)
      have E2:=t4 (by omega)
      subst E2
      rcases Nat.lt_or_ge d r with U|U
      ·have f6:=lt_t (show p+n+d<p+n+r by omega)
       have hS2:=t5 X U
       clear t1 t2 t3 t4 t5 t6
       try replace Y:=hide Y
       try replace Z:=hide Z
       have hS:=hR
       repeat'(first|(simp -implicitDefEqProofs only[*,zr,seval,reduceIte,reduceCtorEq])|(apply zk<;>intro hc)|(refine zp ?_)|(refine zd ?_)|fail)
       refine VW (by omega) rfl hS rfl 100001 1 ((QJ _).map .f) [] [_,_,_,_] rfl rfl (QU _) rfl (by rw[QB];exact List.nodup_nil) (by rw[QB];simp [idsS]) (LeL.refl _) rfl (by repeat (first|exact QQ (by simp)|refine Qa rfl ?_)) ?_
       rw[Qe,QX,QB]
       unfold QJ
       repeat'(first|(simp -implicitDefEqProofs only[*,zr,seval,reduceIte,reduceCtorEq])|(apply zk<;>intro hc)|(refine zp ?_)|(refine zd ?_)|fail)
       clear hS
       have hS:=hS2
       refine VW (by omega) rfl hS rfl 100001 1 ((QJ _).map .f) [] [_,_,_,_] rfl rfl (QU _) rfl (by rw[QB];exact List.nodup_nil) (by rw[QB];simp [idsS]) (LeL.refl _) rfl (by repeat (first|exact QQ (by simp)|refine Qa rfl ?_)) ?_
       rw[Qe,QX,QB]
       unfold QJ
       repeat'(first|(simp -implicitDefEqProofs only[*,zr,seval,reduceIte,reduceCtorEq])|(apply zk<;>intro hc)|(refine zp ?_)|(refine zd ?_)|fail)
       exact⟨[],(rowF fNr _).map .f,rfl,rfl,QU _,rfl,by rw[QB];exact List.nodup_nil,by rw[QB];simp [idsS]⟩
      ·have f6:=lt_f (show p+n+d≥p+n+r by omega)
       have E3:=t6 (by omega)
       subst E3
       clear t1 t2 t3 t4 t5 t6
       try replace Y:=hide Y
       try replace Z:=hide Z
       have hS:=hR
       repeat'(first|(simp -implicitDefEqProofs only[*,zr,seval,reduceIte,reduceCtorEq])|(apply zk<;>intro hc)|(refine zp ?_)|(refine zd ?_)|fail)
       refine VW (by omega) rfl hS rfl 100001 1 ((QJ _).map .f) [] [_,_,_,_] rfl rfl (QU _) rfl (by rw[QB];exact List.nodup_nil) (by rw[QB];simp [idsS]) (LeL.refl _) rfl (by repeat (first|exact QQ (by simp)|refine Qa rfl ?_)) ?_
       rw[Qe,QX,QB]
       unfold QJ
       repeat'(first|(simp -implicitDefEqProofs only[*,zr,seval,reduceIte,reduceCtorEq])|(apply zk<;>intro hc)|(refine zp ?_)|(refine zd ?_)|fail)
       exact⟨[],(rowF fNr _).map .f,rfl,rfl,QU _,rfl,by rw[QB];exact List.nodup_nil,by rw[QB];simp [idsS]⟩
     ·have f3:=lt_t (show p<p+i by omega)
      have f4:=lt_t (show p+i<p+g by have:=hgd.out;omega)
      have hS1:=t3 Z Y
      rcases Nat.lt_or_ge d r with U|U
      ·have f6:=lt_t (show p+n+d<p+n+r by omega)
       have hS2:=t5 X U
       clear t1 t2 t3 t4 t5 t6
       try replace Y:=hide Y
       try replace Z:=hide Z
       have hS:=hR
       repeat'(first|(simp -implicitDefEqProofs only[*,zr,seval,reduceIte,reduceCtorEq])|(apply zk<;>intro hc)|(refine zp ?_)|(refine zd ?_)|fail)
       refine VW (by omega) rfl hS rfl 100001 1 ((QJ _).map .f) [] [_,_,_,_] rfl rfl (QU _) rfl (by rw[QB];exact List.nodup_nil) (by rw[QB];simp [idsS]) (LeL.refl _) rfl (by repeat (first|exact QQ (by simp)|refine Qa rfl ?_)) ?_
       rw[Qe,QX,QB]
       unfold QJ
       repeat'(first|(simp -implicitDefEqProofs only[*,zr,seval,reduceIte,reduceCtorEq])|(apply zk<;>intro hc)|(refine zp ?_)|(refine zd ?_)|fail)
       clear hS
       have hS:=hS1
       refine VW (by omega) rfl hS rfl 100001 1 ((QJ _).map .f) [] [_,_,_,_] rfl rfl (QU _) rfl (by rw[QB];exact List.nodup_nil) (by rw[QB];simp [idsS]) (LeL.refl _) rfl (by repeat (first|exact QQ (by simp)|refine Qa rfl ?_)) ?_
       rw[Qe,QX,QB]
       unfold QJ
       repeat'(first|(simp -implicitDefEqProofs only[*,zr,seval,reduceIte,reduceCtorEq])|(apply zk<;>intro hc)|(refine zp ?_)|(refine zd ?_)|fail)
       clear hS
       have hS:=hS2
       refine VW (by omega) rfl hS rfl 100001 1 ((QJ _).map .f) [] [_,_,_,_] rfl rfl (QU _) rfl (by rw[QB];exact List.nodup_nil) (by rw[QB];simp [idsS]) (LeL.refl _) rfl (by repeat (first|exact QQ (by simp)|refine Qa rfl ?_)) ?_
       rw[Qe,QX,QB]
       unfold QJ
       repeat'(first|(simp -implicitDefEqProofs only[*,zr,seval,reduceIte,reduceCtorEq])|(apply zk<;>intro hc)|(refine zp ?_)|(refine zd ?_)|fail)
       exact⟨[],(rowF fNr _).map .f,rfl,rfl,QU _,rfl,by rw[QB];exact List.nodup_nil,by rw[QB];simp [idsS]⟩
      ·have f6:=lt_f (show p+n+d≥p+n+r by omega)
       have E3:=t6 (by omega)
       subst E3
       clear t1 t2 t3 t4 t5 t6
       try replace Y:=hide Y
       try replace Z:=hide Z
       have hS:=hR
       repeat'(first|(simp -implicitDefEqProofs only[*,zr,seval,reduceIte,reduceCtorEq])|(apply zk<;>intro hc)|(refine zp ?_)|(refine zd ?_)|fail)
       refine VW (by omega) rfl hS rfl 100001 1 ((QJ _).map .f) [] [_,_,_,_] rfl rfl (QU _) rfl (by rw[QB];exact List.nodup_nil) (by rw[QB];simp [idsS]) (LeL.refl _) rfl (by repeat (first|exact QQ (by simp)|refine Qa rfl ?_)) ?_
       rw[Qe,QX,QB]
       unfold QJ
       repeat'(first|(simp -implicitDefEqProofs only[*,zr,seval,reduceIte,reduceCtorEq])|(apply zk<;>intro hc)|(refine zp ?_)|(refine zd ?_)|fail)
       clear hS
       have hS:=hS1
       refine VW (by omega) rfl hS rfl 100001 1 ((QJ _).map .f) [] [_,_,_,_] rfl rfl (QU _) rfl (by rw[QB];exact List.nodup_nil) (by rw[QB];simp [idsS]) (LeL.refl _) rfl (by repeat (first|exact QQ (by simp)|refine Qa rfl ?_)) ?_
       rw[Qe,QX,QB]
       unfold QJ
       repeat'(first|(simp -implicitDefEqProofs only[*,zr,seval,reduceIte,reduceCtorEq])|(apply zk<;>intro hc)|(refine zp ?_)|(refine zd ?_)|fail)
       exact⟨[],(rowF fNr _).map .f,rfl,rfl,QU _,rfl,by rw[QB];exact List.nodup_nil,by rw[QB];simp [idsS]⟩
   ·have f1:=lt_f (show p+i≥p+n by omega)
    have f5:=lt_f (show p+g≥p+n+d by have:=hgd.out;omega)
    have f3:=lt_t (show p<p+i by omega)
    have E1:=t2 (by omega)
    have E3:=t6 (by omega)
    subst E1 E3
    rcases Nat.eq_zero_or_pos d with Y|Y
    ·have f4:=lt_f (show p+i≥p+g by have:=hgd.out;omega)
     have E2:=t4 (by omega)
     subst E2
     clear t1 t2 t3 t4 t5 t6
     try replace Y:=hide Y
     try replace Z:=hide Z
     repeat'(first|(simp -implicitDefEqProofs only[*,zr,seval,reduceIte,reduceCtorEq])|(apply zk<;>intro hc)|(refine zp ?_)|(refine zd ?_)|fail)
     exact⟨[],(rowF fNr _).map .f,rfl,rfl,QU _,rfl,by rw[QB];exact List.nodup_nil,by rw[QB];simp [idsS]⟩
    ·have f4:=lt_t (show p+i<p+g by have:=hgd.out;omega)
     have hS:=t3 (by omega) Y
     clear t1 t2 t3 t4 t5 t6
     try replace Y:=hide Y
     try replace Z:=hide Z
     repeat'(first|(simp -implicitDefEqProofs only[*,zr,seval,reduceIte,reduceCtorEq])|(apply zk<;>intro hc)|(refine zp ?_)|(refine zd ?_)|fail)
     refine VW (by omega) rfl hS rfl 100001 1 ((QJ _).map .f) [] [_,_,_,_] rfl rfl (QU _) rfl (by rw[QB];exact List.nodup_nil) (by rw[QB];simp [idsS]) (LeL.refl _) rfl (by repeat (first|exact QQ (by simp)|refine Qa rfl ?_)) ?_
     rw[Qe,QX,QB]
     unfold QJ
     repeat'(first|(simp -implicitDefEqProofs only[*,zr,seval,reduceIte,reduceCtorEq])|(apply zk<;>intro hc)|(refine zp ?_)|(refine zd ?_)|fail)
     exact⟨[],(rowF fNr _).map .f,rfl,rfl,QU _,rfl,by rw[QB];exact List.nodup_nil,by rw[QB];simp [idsS]⟩
 ·simp only[gt_iff_lt]at c1
  replace c3:=hide c3
  replace c2:=hide c2
  have ex1:=c2
  clear c2
  repeat'(first|(simp -implicitDefEqProofs only[*,putS,zr,seval,reduceIte,reduceCtorEq])|(apply zk<;>intro hc)|(refine zp ?_)|(refine zd ?_)|fail)
  refine QK (S:=Nat × Nat) 220 [0,1,2,3,4,18,19,22] [100001] (fun s=>[(20,.f (.int .i64 ((p+s.1:Nat):Int))),(21,.f (.int .i64 ((p+s.2:Nat):Int)))]) (fun s=>[]) (fun s=>s0≤s.1∧s.1≤s.2∧s.2≤e0∧(∀ (c:Nat) x y,s0≤c→c<s.1→B[g - 1 - c]? = some x→A[c]? = some y→lt x y=false)∧(∀ (c:Nat) x y,s.2≤c→c<e0→B[g - 1 - c]? = some x→A[c]? = some y→lt x y=true)) (fun s=>s.2 - s.1) (s0,e0) [] ?_ ?_ fun s hs=> ?_
  ·exact⟨Nat.le_refl _,z1,Nat.le_refl _,fun c x y h1 h2=>absurd h2 (by dsimp only;omega),fun c x y h1 h2=>absurd h2 (by dsimp only at h1;omega)⟩
  ·rw[c3.out]
   try rw[ex1.out]
   refine wk_i ?_ ?_<;>simp only[zw,seval,reduceIte,reduceCtorEq]
  obtain⟨i,j⟩:=s
  obtain⟨hs0,hij,hj,hlo,hhi⟩:=hs
  dsimp only at hs0 hij hj hlo hhi ⊢
  refine zrs ?_
  rcases Nat.lt_or_ge i j with hlt|hge
  ·have h2:=lt_t (show p+i<p+j by omega)
   obtain⟨hw1,hw2,hw3,hw4⟩:=halfW (i:=p+i) (j:=p+j) (by omega)
   have hw5:IntKind.i64.wrap ((((p+i+(p+j)) / 2:Nat):Int)+1)=((p+((i+j) / 2+1):Nat):Int):=by rw[QR]<;>omega
   have hmd:(p+i+(p+j)) / 2=p+(i+j) / 2:=by omega
   have i1:i≤(i+j) / 2:=by omega
   have i2:(i+j) / 2<j:=by omega
   rw[hmd]at hw3 hw4 hw5
   clear hmd
   generalize (i+j) / 2=mid at*
   have hw6:IntKind.i64.wrap (((p+g+(p+n) - 1:Nat):Int) - ((p+mid:Nat):Int))=((p+n+(g - 1 - mid):Nat):Int):=by rw[QR]<;>omega
   obtain⟨y,hy⟩:=QH (l:=A) (i:=mid) (by have:=hn.out;omega)
   obtain⟨x,hx⟩:=QH (l:=B) (i:=g - 1 - mid) (by have:=hr.out;omega)
   have hc0:=hcx.out _ _ x y hx hy
   have hm1:=fun (c:Nat) x' y' (h:c≤mid) h1 h2=>hmono.out c mid (g - 1 - c) (g - 1 - mid) x' x y' y (by omega) h h1 h2 hx hy
   have hm2:=fun (c:Nat) x' y' (h:mid≤c) h1 h2=>hmono.out mid c (g - 1 - mid) (g - 1 - c) x x' y y' (by omega) h hx hy h1 h2
   have hld1:=XE (enc:=fNr) hs5.out (gA.out _ y hy)
   have hld0:=XE (enc:=fNr) hs5.out (gB.out _ x hx)
   have hin1:=XL (enc:=fNr) (l:=M) (i:=p+mid) hs5.out (by have:=hNN.out;omega)
   have hin0:=XL (enc:=fNr) (l:=M) (i:=p+n+(g - 1 - mid)) hs5.out (by have:=hNN.out;omega)
   simp only[fNr,List.map_cons,List.map_nil,List.length_map,splice]at hld1 hld0 hin1 hin0
   have p1:(p+mid<N)=True:=by rw[eq_iff_iff,iff_true];omega
   have p2:(p+n+(g - 1 - mid)<N)=True:=by rw[eq_iff_iff,iff_true];omega
   have p3:=YO (show p+mid+1≤N by omega)
   have p4:=YO (show p+n+(g - 1 - mid)+1≤N by omega)
   replace hx:=hide hx
   replace hy:=hide hy
   replace hm1:=hide hm1
   replace hm2:=hide hm2
   replace hlo:=hide hlo
   replace hhi:=hide hhi
   rcases hcc:lt x y with _|_
   ·rw[hcc]at hc0
    replace hcc:=hide hcc
    repeat'(first|(simp -implicitDefEqProofs only[*,zr,seval,reduceIte,reduceCtorEq])|(apply zk<;>intro hc)|(refine zp ?_)|(refine zd ?_)|(refine cP (hcf.out x y) ?_)|(refine cD (hcf.out x y) ?_)|(refine cF (hcf.out x y) ?_)|fail)
    refine⟨(mid+1,j),⟨by dsimp only;omega,by dsimp only;omega,by dsimp only;omega,fun c x' y' h0 h1 h3 h4=> ?_,hhi.out⟩,by dsimp only;omega,?_⟩
    ·rcases hxy:lt x' y' with _|_
     ·rfl
     ·have:=hm1.out c x' y' (by dsimp only at h1;omega) h3 h4 hxy
      rw[hcc.out]at this;cases this
    ·refine wk_i ?_ ?_<;>simp only[zw,seval,reduceIte,reduceCtorEq]
   ·rw[hcc]at hc0
    replace hcc:=hide hcc
    repeat'(first|(simp -implicitDefEqProofs only[*,zr,seval,reduceIte,reduceCtorEq])|(apply zk<;>intro hc)|(refine zp ?_)|(refine zd ?_)|(refine cP (hcf.out x y) ?_)|(refine cD (hcf.out x y) ?_)|(refine cF (hcf.out x y) ?_)|fail)
    refine⟨(i,mid),⟨by dsimp only;omega,by dsimp only;omega,by dsimp only;omega,hlo.out,fun c x' y' h0 h1 h3 h4=>hm2.out c x' y' h0 h3 h4 hcc.out⟩,by dsimp only;omega,?_⟩
    refine wk_i ?_ ?_<;>simp only[zw,seval,reduceIte,reduceCtorEq]
  ·obtain rfl:i=j:=by omega
   have h2:=lt_f (show p+i≥p+i by omega)
   have hsp:=hsplit.out g s0 e0 i hs0 hj z2 z3 z4 z5.out z6.out hlo hhi
   obtain⟨d,hd⟩:∃ d,g - i=d:=⟨_,rfl⟩
   have hgd:i+d=g:=by omega
   rw[hd]at hsp
   obtain⟨M1,M2,t1,t2,t3,t4,t5,t6⟩:=hparts.out i d (by omega) (by omega) (by omega) (by have:=hg.out;omega) hsp
   rw[hgd]at t3 t5
   clear hsp hlo hhi
   have w5:IntKind.i64.wrap (((p+g+(p+n):Nat):Int) - ((p+i:Nat):Int))=((p+n+d:Nat):Int):=by rw[QR]<;>omega
   have hg2:=hg.out
   replace hd:=hide hd
   replace hgd:=hide hgd
   replace hg2:=hide hg2
   replace c3:=hide c3
   replace ex1:=hide ex1
   rcases Nat.lt_or_ge i n with X|X
   ·have f1:=lt_t (show p+i<p+n by omega)
    have f5:=lt_t (show p+g<p+n+d by have:=hgd.out;omega)
    rcases Nat.eq_zero_or_pos d with Y|Y
    ·have f2:=lt_f (show p+n≥p+n+d by omega)
     have f3:=lt_t (show p<p+i by have:=hgd.out;omega)
     have f4:=lt_f (show p+i≥p+g by have:=hgd.out;omega)
     have f6:=lt_t (show p+n+d<p+n+r by omega)
     have E1:=t2 (by omega)
     have E2:=t4 (by omega)
     subst E1 E2
     have hS:=t5 X (by omega)
     clear t1 t2 t3 t4 t5 t6
     try replace Y:=hide Y
     try replace Z:=hide Z
     repeat'(first|(simp -implicitDefEqProofs only[*,zr,seval,reduceIte,reduceCtorEq])|(apply zk<;>intro hc)|(refine zp ?_)|(refine zd ?_)|fail)
     refine VW (by omega) rfl hS rfl 100001 1 ((QJ _).map .f) [] [_,_,_,_] rfl rfl (QU _) rfl (by rw[QB];exact List.nodup_nil) (by rw[QB];simp [idsS]) (LeL.refl _) rfl (by repeat (first|exact QQ (by simp)|refine Qa rfl ?_)) ?_
     rw[Qe,QX,QB]
     unfold QJ
     repeat'(first|(simp -implicitDefEqProofs only[*,zr,seval,reduceIte,reduceCtorEq])|(apply zk<;>intro hc)|(refine zp ?_)|(refine zd ?_)|fail)
     exact⟨[],(rowF fNr _).map .f,rfl,rfl,QU _,rfl,by rw[QB];exact List.nodup_nil,by rw[QB];simp [idsS]⟩
    ·have f2:=lt_t (show p+n<p+n+d by omega)
     have hR:=t1 X Y
     rcases Nat.eq_zero_or_pos i with Z|Z
     ·have f3:=lt_f (show p≥p+i by omega)
      have E2:=t4 (by omega)
      subst E2
      rcases Nat.lt_or_ge d r with U|U
      ·have f6:=lt_t (show p+n+d<p+n+r by omega)
       have hS2:=t5 X U
       clear t1 t2 t3 t4 t5 t6
       try replace Y:=hide Y
       try replace Z:=hide Z
       have hS:=hR
       repeat'(first|(simp -implicitDefEqProofs only[*,zr,seval,reduceIte,reduceCtorEq])|(apply zk<;>intro hc)|(refine zp ?_)|(refine zd ?_)|fail)
       refine VW (by omega) rfl hS rfl 100001 1 ((QJ _).map .f) [] [_,_,_,_] rfl rfl (QU _) rfl (by rw[QB];exact List.nodup_nil) (by rw[QB];simp [idsS]) (LeL.refl _) rfl (by repeat (first|exact QQ (by simp)|refine Qa rfl ?_)) ?_
       rw[Qe,QX,QB]
       unfold QJ
       repeat'(first|(simp -implicitDefEqProofs only[*,zr,seval,reduceIte,reduceCtorEq])|(apply zk<;>intro hc)|(refine zp ?_)|(refine zd ?_)|fail)
       clear hS
       have hS:=hS2
       refine VW (by omega) rfl hS rfl 100001 1 ((QJ _).map .f) [] [_,_,_,_] rfl rfl (QU _) rfl (by rw[QB];exact List.nodup_nil) (by rw[QB];simp [idsS]) (LeL.refl _) rfl (by repeat (first|exact QQ (by simp)|refine Qa rfl ?_)) ?_
       rw[Qe,QX,QB]
       unfold QJ
       repeat'(first|(simp -implicitDefEqProofs only[*,zr,seval,reduceIte,reduceCtorEq])|(apply zk<;>intro hc)|(refine zp ?_)|(refine zd ?_)|fail)
       exact⟨[],(rowF fNr _).map .f,rfl,rfl,QU _,rfl,by rw[QB];exact List.nodup_nil,by rw[QB];simp [idsS]⟩
      ·have f6:=lt_f (show p+n+d≥p+n+r by omega)
       have E3:=t6 (by omega)
       subst E3
       clear t1 t2 t3 t4 t5 t6
       try replace Y:=hide Y
       try replace Z:=hide Z
       have hS:=hR
       repeat'(first|(simp -implicitDefEqProofs only[*,zr,seval,reduceIte,reduceCtorEq])|(apply zk<;>intro hc)|(refine zp ?_)|(refine zd ?_)|fail)
       refine VW (by omega) rfl hS rfl 100001 1 ((QJ _).map .f) [] [_,_,_,_] rfl rfl (QU _) rfl (by rw[QB];exact List.nodup_nil) (by rw[QB];simp [idsS]) (LeL.refl _) rfl (by repeat (first|exact QQ (by simp)|refine Qa rfl ?_)) ?_
       rw[Qe,QX,QB]
       unfold QJ
       repeat'(first|(simp -implicitDefEqProofs only[*,zr,seval,reduceIte,reduceCtorEq])|(apply zk<;>intro hc)|(refine zp ?_)|(refine zd ?_)|fail)
       exact⟨[],(rowF fNr _).map .f,rfl,rfl,QU _,rfl,by rw[QB];exact List.nodup_nil,by rw[QB];simp [idsS]⟩
     ·have f3:=lt_t (show p<p+i by omega)
      have f4:=lt_t (show p+i<p+g by have:=hgd.out;omega)
      have hS1:=t3 Z Y
      rcases Nat.lt_or_ge d r with U|U
      ·have f6:=lt_t (show p+n+d<p+n+r by omega)
       have hS2:=t5 X U
       clear t1 t2 t3 t4 t5 t6
       try replace Y:=hide Y
       try replace Z:=hide Z
       have hS:=hR
       repeat'(first|(simp -implicitDefEqProofs only[*,zr,seval,reduceIte,reduceCtorEq])|(apply zk<;>intro hc)|(refine zp ?_)|(refine zd ?_)|fail)
       refine VW (by omega) rfl hS rfl 100001 1 ((QJ _).map .f) [] [_,_,_,_] rfl rfl (QU _) rfl (by rw[QB];exact List.nodup_nil) (by rw[QB];simp [idsS]) (LeL.refl _) rfl (by repeat (first|exact QQ (by simp)|refine Qa rfl ?_)) ?_
       rw[Qe,QX,QB]
       unfold QJ
       repeat'(first|(simp -implicitDefEqProofs only[*,zr,seval,reduceIte,reduceCtorEq])|(apply zk<;>intro hc)|(refine zp ?_)|(refine zd ?_)|fail)
       clear hS
       have hS:=hS1
       refine VW (by omega) rfl hS rfl 100001 1 ((QJ _).map .f) [] [_,_,_,_] rfl rfl (QU _) rfl (by rw[QB];exact List.nodup_nil) (by rw[QB];simp [idsS]) (LeL.refl _) rfl (by repeat (first|exact QQ (by simp)|refine Qa rfl ?_)) ?_
       rw[Qe,QX,QB]
       unfold QJ
       repeat'(first|(simp -implicitDefEqProofs only[*,zr,seval,reduceIte,reduceCtorEq])|(apply zk<;>intro hc)|(refine zp ?_)|(refine zd ?_)|fail)
       clear hS
       have hS:=hS2
       refine VW (by omega) rfl hS rfl 100001 1 ((QJ _).map .f) [] [_,_,_,_] rfl rfl (QU _) rfl (by rw[QB];exact List.nodup_nil) (by rw[QB];simp [idsS]) (LeL.refl _) rfl (by repeat (first|exact QQ (by simp)|refine Qa rfl ?_)) ?_
       rw[Qe,QX,QB]
       unfold QJ
       repeat'(first|(simp -implicitDefEqProofs only[*,zr,seval,reduceIte,reduceCtorEq])|(apply zk<;>intro hc)|(refine zp ?_)|(refine zd ?_)|fail)
       exact⟨[],(rowF fNr _).map .f,rfl,rfl,QU _,rfl,by rw[QB];exact List.nodup_nil,by rw[QB];simp [idsS]⟩
      ·have f6:=lt_f (show p+n+d≥p+n+r by omega)
       have E3:=t6 (by omega)
       subst E3
       clear t1 t2 t3 t4 t5 t6
       try replace Y:=hide Y
       try replace Z:=hide Z
       have hS:=hR
       repeat'(first|(simp -implicitDefEqProofs only[*,zr,seval,reduceIte,reduceCtorEq])|(apply zk<;>intro hc)|(refine zp ?_)|(refine zd ?_)|fail)
       refine VW (by omega) rfl hS rfl 100001 1 ((QJ _).map .f) [] [_,_,_,_] rfl rfl (QU _) rfl (by rw[QB];exact List.nodup_nil) (by rw[QB];simp [idsS]) (LeL.refl _) rfl (by repeat (first|exact QQ (by simp)|refine Qa rfl ?_)) ?_
       rw[Qe,QX,QB]
       unfold QJ
       repeat'(first|(simp -implicitDefEqProofs only[*,zr,seval,reduceIte,reduceCtorEq])|(apply zk<;>intro hc)|(refine zp ?_)|(refine zd ?_)|fail)
       clear hS
       have hS:=hS1
       refine VW (by omega) rfl hS rfl 100001 1 ((QJ _).map .f) [] [_,_,_,_] rfl rfl (QU _) rfl (by rw[QB];exact List.nodup_nil) (by rw[QB];simp [idsS]) (LeL.refl _) rfl (by repeat (first|exact QQ (by simp)|refine Qa rfl ?_)) ?_
       rw[Qe,QX,QB]
       unfold QJ
       repeat'(first|(simp -implicitDefEqProofs only[*,zr,seval,reduceIte,reduceCtorEq])|(apply zk<;>intro hc)|(refine zp ?_)|(refine zd ?_)|fail)
       exact⟨[],(rowF fNr _).map .f,rfl,rfl,QU _,rfl,by rw[QB];exact List.nodup_nil,by rw[QB];simp [idsS]⟩
   ·have f1:=lt_f (show p+i≥p+n by omega)
    have f5:=lt_f (show p+g≥p+n+d by have:=hgd.out;omega)
    have f3:=lt_t (show p<p+i by omega)
    have E1:=t2 (by omega)
    have E3:=t6 (by omega)
    subst E1 E3
    rcases Nat.eq_zero_or_pos d with Y|Y
    ·have f4:=lt_f (show p+i≥p+g by have:=hgd.out;omega)
     have E2:=t4 (by omega)
     subst E2
     clear t1 t2 t3 t4 t5 t6
     try replace Y:=hide Y
     try replace Z:=hide Z
     repeat'(first|(simp -implicitDefEqProofs only[*,zr,seval,reduceIte,reduceCtorEq])|(apply zk<;>intro hc)|(refine zp ?_)|(refine zd ?_)|fail)
     exact⟨[],(rowF fNr _).map .f,rfl,rfl,QU _,rfl,by rw[QB];exact List.nodup_nil,by rw[QB];simp [idsS]⟩
    ·have f4:=lt_t (show p+i<p+g by have:=hgd.out;omega)
     have hS:=t3 (by omega) Y
     clear t1 t2 t3 t4 t5 t6
     try replace Y:=hide Y
     try replace Z:=hide Z
     repeat'(first|(simp -implicitDefEqProofs only[*,zr,seval,reduceIte,reduceCtorEq])|(apply zk<;>intro hc)|(refine zp ?_)|(refine zd ?_)|fail)
     refine VW (by omega) rfl hS rfl 100001 1 ((QJ _).map .f) [] [_,_,_,_] rfl rfl (QU _) rfl (by rw[QB];exact List.nodup_nil) (by rw[QB];simp [idsS]) (LeL.refl _) rfl (by repeat (first|exact QQ (by simp)|refine Qa rfl ?_)) ?_
     rw[Qe,QX,QB]
     unfold QJ
     repeat'(first|(simp -implicitDefEqProofs only[*,zr,seval,reduceIte,reduceCtorEq])|(apply zk<;>intro hc)|(refine zp ?_)|(refine zd ?_)|fail)
     exact⟨[],(rowF fNr _).map .f,rfl,rfl,QU _,rfl,by rw[QB];exact List.nodup_nil,by rw[QB];simp [idsS]⟩
end Go.Proofs.YtjfchihkhpinmaaGreatDoor
