/-
  slices.SortStableFunc's parts at nodes of a directory: insertion sort. No statement of the seat is proved here; no conditions.
-/
import Derived.Test.YtjfchihkhpinmaaGreatDoorWr2
import Derived.Test.YtjfchihkhpinmaaGreatDoorPtr
import Derived.Test.YtjfchihkhpinmaaGreatDoorLowC
namespace Go.Proofs.YtjfchihkhpinmaaGreatDoor
open Go.RowKit Go.Shelf
set_option linter.unusedVariables false
set_option linter.unusedSimpArgs false
set_option maxRecDepth 100000

abbrev Nr:=ByteArray × FV × FV
def fNr (x:Nr):List FV:=[.str x.1,x.2.1,x.2.2]
section
variable {α : Type}
def Xn (P A C B Q:List α) (i:Nat):List α:=P++(B.take i++A.drop i)++C++(A.take i++B.drop i)++Q
theorem swapTo_0 (P A C B Q:List α):Xn P A C B Q 0=P++A++C++B++Q:=by simp [Xn]
theorem QDN (P A C B Q:List α){n:Nat}(hA:A.length=n) (hB:B.length=n):Xn P A C B Q n=P++B++C++A++Q:=by
 unfold Xn
 rw[List.take_of_length_le (by omega),List.take_of_length_le (by omega),List.drop_of_length_le (by omega),List.drop_of_length_le (by omega),List.append_nil,List.append_nil]
theorem QDM (P A C B Q:List α){n i:Nat}(hA:A.length=n) (hB:B.length=n) (hi:i≤n):(Xn P A C B Q i).length=P.length+n+C.length+n+Q.length:=by
 unfold Xn
 simp only[List.length_append,List.length_take,List.length_drop];omega
theorem swapTo_at (P A C B Q:List α){n i:Nat}{x y : α}(hA:A.length=n) (hB:B.length=n) (hx:A[i]? = some x) (hy:B[i]? = some y) :
  (Xn P A C B Q i)[P.length+i]? = some x∧(Xn P A C B Q i)[P.length+n+C.length+i]? = some y∧((Xn P A C B Q i).set (P.length+i) y).set (P.length+n+C.length+i) x=Xn P A C B Q (i+1):=by
 have hi:i<n:=by have:=(List.getElem?_eq_some_iff.1 hx).1;omega
 have dA:A.drop i=x::A.drop (i+1):=by obtain⟨h1,h2⟩:=List.getElem?_eq_some_iff.1 hx;rw[List.drop_eq_getElem_cons h1,h2]
 have dB:B.drop i=y::B.drop (i+1):=by obtain⟨h1,h2⟩:=List.getElem?_eq_some_iff.1 hy;rw[List.drop_eq_getElem_cons h1,h2]
 have e1:Xn P A C B Q i=(P++B.take i)++x::(A.drop (i+1)++C++A.take i++y::(B.drop (i+1)++Q)):=by
  unfold Xn;rw[dA,dB];simp [List.append_assoc]
 have e2:Xn P A C B Q i=(P++B.take i++x::(A.drop (i+1)++C++A.take i))++y::(B.drop (i+1)++Q):=by rw[e1];simp [List.append_assoc]
 have l1:(P++B.take i).length=P.length+i:=by rw[List.length_append,List.length_take];omega
 have l2:(P++B.take i++x::(A.drop (i+1)++C++A.take i)).length=P.length+n+C.length+i:=by
  simp only[List.length_append,List.length_cons,List.length_take,List.length_drop];omega
 refine⟨?_,?_,?_⟩
 ·rw[e1,← l1,List.getElem?_append_right (Nat.le_refl _),Nat.sub_self];rfl
 ·rw[e2,← l2,List.getElem?_append_right (Nat.le_refl _),Nat.sub_self];rfl
 ·rw[e1,← l1,List.set_append_right _ _ (Nat.le_refl _),Nat.sub_self,List.set_cons_zero]
  have e3:P++B.take i++y::(A.drop (i+1)++C++A.take i++y::(B.drop (i+1)++Q))=(P++B.take i++y::(A.drop (i+1)++C++A.take i))++y::(B.drop (i+1)++Q):=by simp [List.append_assoc]
  have l3:(P++B.take i++y::(A.drop (i+1)++C++A.take i)).length=P.length+n+C.length+i:=by
   simp only[List.length_append,List.length_cons,List.length_take,List.length_drop];omega
  rw[e3,← l3,List.set_append_right _ _ (Nat.le_refl _),Nat.sub_self,List.set_cons_zero]
  unfold Xn
  rw[List.take_add_one,List.take_add_one,hx,hy]
  simp [List.append_assoc]
def rotV (M:List α) (a m b:Nat):List α:=M.take a++(M.drop m).take (b - m)++(M.drop a).take (m - a)++M.drop b
theorem cut4 {M:List α}{a m b:Nat}(h1:a≤m) (h2:m≤b) (h3:b≤M.length):M=M.take a++(M.drop a).take (m - a)++(M.drop m).take (b - m)++M.drop b:=by
 have e1:M.drop a=(M.drop a).take (m - a)++M.drop m:=by
  conv=>lhs;rw[← List.take_append_drop (m - a) (M.drop a)]
  rw[List.drop_drop,show a+(m - a)=m by omega]
 have e2:M.drop m=(M.drop m).take (b - m)++M.drop b:=by
  conv=>lhs;rw[← List.take_append_drop (b - m) (M.drop m)]
  rw[List.drop_drop,show m+(b - m)=b by omega]
 conv=>lhs;rw[← List.take_append_drop a M,e1,e2]
 simp [List.append_assoc]
theorem UO {M:List α}{a b:Nat}(h2:a≤b) (h3:b≤M.length):((M.drop a).take (b - a)).length=b - a:=by rw[List.length_take,List.length_drop];omega
theorem QCQ {M:List α}{a:Nat}(h:a≤M.length):(M.take a).length=a:=by rw[List.length_take];omega
def insT (lt : α→α→Bool) (x : α):List α→List α
 | []=>[x]
 | y::l=>if lt x y=true then x::y::l else y::insT lt x l
def QW (lt : α→α→Bool):List α→List α
 | []=>[]
 | x::l=>insT lt x (QW lt l)
structure OrdOn (lt : α→α→Bool) (S:List α):Prop where
 tr:∀ x y z,x∈S→y∈S→z∈S→lt x y=true→lt y z=true→lt x z=true
 asy:∀ x y,x∈S→y∈S→lt x y=true→lt y x=false
 tot:∀ x y,x∈S→y∈S→lt x y=false→x=y∨lt y x=true
 nd:S.Nodup
def Qk (lt : α→α→Bool) (l:List α):Prop:=l.Pairwise fun x y=>lt x y=true
theorem OrdOn.perm {lt : α→α→Bool}{S S':List α}(h:OrdOn lt S) (hp:S'.Perm S):OrdOn lt S':=
 ⟨fun x y z hx hy hz=>h.tr x y z (hp.mem_iff.1 hx) (hp.mem_iff.1 hy) (hp.mem_iff.1 hz),fun x y hx hy=>h.asy x y (hp.mem_iff.1 hx) (hp.mem_iff.1 hy),fun x y hx hy=>h.tot x y (hp.mem_iff.1 hx) (hp.mem_iff.1 hy),hp.nodup_iff.2 h.nd⟩
theorem OrdOn.sub {lt : α→α→Bool}{S S':List α}(h:OrdOn lt S) (hp:S'.Sublist S):OrdOn lt S':=
 ⟨fun x y z hx hy hz=>h.tr x y z (hp.mem hx) (hp.mem hy) (hp.mem hz),fun x y hx hy=>h.asy x y (hp.mem hx) (hp.mem hy),fun x y hx hy=>h.tot x y (hp.mem hx) (hp.mem hy),hp.nodup h.nd⟩
theorem Ns (lt : α→α→Bool) (x : α):∀ l:List α,(insT lt x l).Perm (x::l)
 | []=> .refl _
 | y::l=>by
  unfold insT
  split
  ·exact .refl _
  ·exact((Ns lt x l).cons y).trans (.swap x y l)
theorem QV (lt : α→α→Bool):∀ l:List α,(QW lt l).Perm l
 | []=> .refl _
 | x::l=>(Ns lt x _).trans ((QV lt l).cons x)
theorem Nq {lt : α→α→Bool}{x : α} : ∀ {l:List α},OrdOn lt (x::l)→Qk lt l→Qk lt (insT lt x l)
 | [],_,_=>List.pairwise_singleton _ _
 | y::l,h,hs=>by
  unfold insT
  obtain⟨h1,h2⟩:=List.pairwise_cons.1 hs
  split
  ·rename_i hxy
   refine List.pairwise_cons.2 ⟨fun z hz=> ?_,hs⟩
   rcases List.mem_cons.1 hz with rfl|hz
   ·exact hxy
   ·exact h.tr x y z (by simp) (by simp) (by simp [hz]) hxy (h1 z hz)
  ·rename_i hxy
   have hyx:lt y x=true:=by
    rcases h.tot x y (by simp) (by simp) (by simpa using hxy)with e|e
    ·subst e
     have:=h.nd
     rw[List.nodup_cons]at this
     exact absurd (List.mem_cons_self ..) this.1
    ·exact e
   refine List.pairwise_cons.2 ⟨fun z hz=> ?_,Nq (h.sub (by exact List.Sublist.cons_cons x (List.sublist_cons_self y l))) h2⟩
   rcases List.mem_cons.1 ((Ns lt x l).mem_iff.1 hz)with rfl|hz
   ·exact hyx
   ·exact h1 z hz
theorem VD {lt : α→α→Bool} : ∀ {l:List α},OrdOn lt l→Qk lt (QW lt l)
 | [],_=>List.Pairwise.nil
 | x::l,h=>Nq (h.perm ((QV lt l).cons x)) (VD (h.sub (List.sublist_cons_self x l)))
theorem ZO {lt : α→α→Bool} : ∀ {l m:List α},OrdOn lt l→l.Perm m→Qk lt l→Qk lt m→l=m
 | [],m,_,hp,_,_=>by rw[hp.symm.eq_nil]
 | x::l,[],_,hp,_,_=>by cases hp.eq_nil
 | x::l,y::m,h,hp,h1,h2=>by
  obtain⟨a1,a2⟩:=List.pairwise_cons.1 h1
  obtain⟨b1,b2⟩:=List.pairwise_cons.1 h2
  have e:x=y:=by
   rcases List.mem_cons.1 (hp.mem_iff.1 (List.mem_cons_self ..))with e|hx
   ·exact e
   ·rcases List.mem_cons.1 (hp.mem_iff.2 (List.mem_cons_self ..))with e|hy
    ·exact e.symm
    ·have:=h.asy x y (by simp) (by simp [hy]) (a1 y hy)
     rw[b1 x hx]at this;cases this
  subst e
  rw[ZO (h.sub (List.sublist_cons_self x l)) hp.cons_inv a2 b2]
def segV (M:List α) (a b:Nat):List α:=(M.drop a).take (b - a)
def Vr (lt : α→α→Bool) (M:List α) (a b:Nat):List α:=M.take a++QW lt (segV M a b)++M.drop b
theorem QDQ {lt : α→α→Bool}{M:List α}{a b:Nat}{S:List α}(h1:a≤b) (h2:b≤M.length) (ho:OrdOn lt (segV M a b)) (hp:S.Perm (segV M a b)) (hs:Qk lt S):M.take a++S++M.drop b=Vr lt M a b:=by
 unfold Vr
 rw[ZO (ho.perm hp) (hp.trans (QV lt _).symm) hs (VD ho)]
end
theorem YO {a b:Nat}(h:a≤b):(a≤b)=True:=by rw[eq_iff_iff,iff_true];exact h
def QJ (M:List Nr):List FV:=rowF fNr M
theorem QBH (pcs:List FV):upd (Qz 80000 (Qo 0 (pcs.map RC.v)) [] (XN 80000 0 (pcs.map RC.v) H0)) 100001 (1,some (.cells (Vk 80000 0 (pcs.map RC.v))))=upd H0 100001 (1,some (.cells (pcs.map .f))):=by
 rw[Qe,QX];rfl
theorem swapR_f (P A C B Q:List Nr) (n:Nat) (hA:A.length=n) (hB:B.length=n) (hl:(P++A++C++B++Q).length≤1000000) (fn:FuncId) :
  Yt Tryz.prog 148 3 (P++A++C++B++Q).length ((QJ (P++A++C++B++Q)).map .v) [] [.f (.int .i64 P.length),.f (.int .i64 ((P.length+n+C.length:Nat):Int)),.f (.int .i64 n),.f (.fn (.func fn))] ((QJ (P++B++C++A++Q)).map .v) []:=by
 have hl2:(P++A++C++B++Q).length=P.length+n+C.length+n+Q.length:=by simp only[List.length_append];omega
 have h0:=swapTo_0 P A C B Q
 have hall:=QDN P A C B Q hA hB
 have hlen:=fun i (hi:i≤n)=>QDM P A C B Q hA hB hi
 have hat:=fun i x y h1 h2=>swapTo_at P A C B Q (i:=i) (x:=x) (y:=y) hA hB h1 h2
 have hs5:∀ x:Nr,(fNr x).length=3:=fun _=>rfl
 rw[hl2]at hl ⊢
 unfold Yt FRetH
 rw[QBH,← h0,← hall]
 generalize hN:P.length+n+C.length+n+Q.length=N at*
 replace hall:=hide hall
 replace h0:=hide h0
 replace hlen:=hide hlen
 replace hat:=hide hat
 replace hl2:=hide hl2
 replace hs5:=hide hs5
 generalize hb:P.length+n+C.length=b at*
 generalize hp:P.length=p at*
 replace hN:=hide hN
 replace hb:=hide hb
 replace hp:=hide hp
 unfold QJ
 refine FCall.of_ax XH ?_
 dsimp only[jm,ji,jf,jl,jL,jn,je,jx,jT,jC,jB,jq,jt,ju,jA,km,kf,kl,kn,kx,VT]
 refine zrs ?_
 repeat'(first|(simp -implicitDefEqProofs only[*,putS,zr,seval,reduceIte,reduceCtorEq])|(apply zk<;>intro hc)|(refine zp ?_)|(refine zd ?_)|fail)
 refine QK (S:=Nat) 38 [0,1,2,3] [] (fun s=>[(10,.f (.int .i64 s))]) (fun s=>[(100001,1,.cells ((rowF fNr (Xn P A C B Q s)).map .f))]) (fun s=>s≤n) (fun s=>n - s) (0) [] ?_ ?_ fun s hs=> ?_
 ·exact Nat.zero_le _
 ·refine wk_i ?_ ?_<;>simp only[zw,seval,reduceIte,reduceCtorEq]
 refine zrs ?_
 rcases Nat.lt_or_ge s n with hlt|hge
 ·obtain⟨x,hx⟩:=QH (l:=A) (i:=s) (by omega)
  obtain⟨y,hy⟩:=QH (l:=B) (i:=s) (by omega)
  obtain⟨g1,g2,g3⟩:=hat.out s x y hx hy
  have hLl:=hlen.out s (by omega)
  have hpb:p+n≤b∧b+n≤N:=by have:=hN.out;have:=hb.out;have:=hp.out;omega
  have h4:=XU hlt (by omega)
  have h2:=lt_t hlt
  generalize hL':Xn P A C B Q (s+1)=L' at*
  generalize Xn P A C B Q s=L at*
  replace hL':=hide hL'
  have w1:IntKind.i64.wrap ((p:Int)+(s:Int))=((p+s:Nat):Int):=by rw[QR]<;>omega
  have w2:IntKind.i64.wrap ((b:Int)+(s:Int))=((b+s:Nat):Int):=by rw[QR]<;>omega
  have hi1:p+s<N:=by omega
  have hi2:b+s<N:=by omega
  generalize p+s=i1 at*
  generalize b+s=i2 at*
  have hld1:=XE (enc:=fNr) hs5.out g1
  have hld2:=XE (enc:=fNr) hs5.out g2
  have hin1:=XL (enc:=fNr) (l:=L) hs5.out (by omega:i1<L.length)
  have hin2:=XL (enc:=fNr) (l:=L) hs5.out (by omega:i2<L.length)
  have hst1:=ZS (enc:=fNr) (x:=y) (l:=L) hs5.out (by omega:i1<L.length)
  have hst2:=ZS (enc:=fNr) (x:=x) (l:=L.set i1 y) hs5.out (by rw[List.length_set];omega:i2<(L.set i1 y).length)
  have hin3:=XL (enc:=fNr) (l:=L.set i1 y) hs5.out (by rw[List.length_set];omega:i2<(L.set i1 y).length)
  rw[g3]at hst2
  simp only[fNr,List.map_cons,List.map_nil,List.length_map,splice]at hld1 hld2 hin1 hin2 hst1 hst2 hin3
  have p1:(i1<N)=True:=by rw[eq_iff_iff,iff_true];exact hi1
  have p2:(i2<N)=True:=by rw[eq_iff_iff,iff_true];exact hi2
  have p3:=YO (show i1+1≤N by omega)
  have p4:=YO (show i2+1≤N by omega)
  replace g1:=hide g1
  replace g2:=hide g2
  replace g3:=hide g3
  replace hx:=hide hx
  replace hy:=hide hy
  repeat'(first|(simp -implicitDefEqProofs only[*,zr,seval,reduceIte,reduceCtorEq])|(apply zk<;>intro hc)|(refine zp ?_)|(refine zd ?_)|fail)
  refine⟨s+1,hlt,by omega,?_⟩
  rw[hL'.out]
  refine wk_i ?_ ?_<;>simp only[zw,seval,reduceIte,reduceCtorEq]
 ·obtain rfl:s=n:=by omega
  have h2:=lt_f hge
  repeat'(first|(simp -implicitDefEqProofs only[*,zr,seval,reduceIte,reduceCtorEq])|(apply zk<;>intro hc)|(refine zp ?_)|(refine zd ?_)|fail)
  exact⟨[],(rowF fNr (Xn P A C B Q s)).map .f,rfl,rfl,QU _,rfl,by rw[QB];exact List.nodup_nil,by rw[QB];simp [idsS]⟩
def QCJ (M T:List Nr) (m i j:Nat):Prop:=∃ P X Y Q:List Nr,M=P++X++Y++Q∧P.length+i=m∧X.length=i∧Y.length=j∧P++Y++X++Q=T
theorem rot_gt {M T:List Nr}{m i j:Nat}(h:QCJ M T m i j) (hj:0<j) (hij:j<i):∃ P A C B Q:List Nr,M=P++A++C++B++Q∧P.length=m - i∧A.length=j∧B.length=j∧P.length+j+C.length=m∧QCJ (P++B++C++A++Q) T m (i - j) j:=by
 obtain⟨P,X,Y,Q,rfl,h1,h2,h3,h4⟩:=h
 refine⟨P,X.take j,X.drop j,Y,Q,?_,by omega,by rw[List.length_take];omega,h3,by rw[List.length_drop];omega,P++Y,X.drop j,X.take j,Q,?_,?_,by rw[List.length_drop];omega,by rw[List.length_take];omega,?_⟩
 ·conv=>lhs;rw[← List.take_append_drop j X]
  simp [List.append_assoc]
 ·simp [List.append_assoc]
 ·rw[List.length_append];omega
 ·rw[← h4]
  conv=>rhs;rw[← List.take_append_drop j X]
  simp [List.append_assoc]
theorem rot_lt {M T:List Nr}{m i j:Nat}(h:QCJ M T m i j) (hi:0<i) (hij:i<j):∃ P A C B Q:List Nr,M=P++A++C++B++Q∧P.length=m - i∧A.length=i∧B.length=i∧P.length+i+C.length=m+j - i∧QCJ (P++B++C++A++Q) T m i (j - i):=by
 obtain⟨P,X,Y,Q,rfl,h1,h2,h3,h4⟩:=h
 refine⟨P,X,Y.take (j - i),Y.drop (j - i),Q,?_,by omega,h2,by rw[List.length_drop];omega,by rw[List.length_take];omega,P,Y.drop (j - i),Y.take (j - i),X++Q,?_,by omega,by rw[List.length_drop];omega,by rw[List.length_take];omega,?_⟩
 ·conv=>lhs;rw[← List.take_append_drop (j - i) Y]
  simp [List.append_assoc]
 ·simp [List.append_assoc]
 ·rw[← h4]
  conv=>rhs;rw[← List.take_append_drop (j - i) Y]
  simp [List.append_assoc]
theorem rot_eq {M T:List Nr}{m i:Nat}(h:QCJ M T m i i):∃ P A B Q:List Nr,M=P++A++ []++B++Q∧P.length=m - i∧A.length=i∧B.length=i∧P.length+i+([]:List Nr).length=m∧P++B++ []++A++Q=T:=by
 obtain⟨P,X,Y,Q,rfl,h1,h2,h3,h4⟩:=h
 exact⟨P,X,Y,Q,by simp [List.append_assoc],by omega,h2,h3,by simp;omega,by rw[← h4];simp [List.append_assoc]⟩
theorem rot_start {M:List Nr}{a m b:Nat}(h1:a≤m) (h2:m≤b) (h3:b≤M.length):QCJ M (rotV M a m b) m (m - a) (b - m):=
 ⟨M.take a,(M.drop a).take (m - a),(M.drop m).take (b - m),M.drop b,cut4 h1 h2 h3,by rw[QCQ (by omega)];omega,UO h1 (by omega),UO h2 h3,rfl⟩
theorem QBl (M M' P A C B Q:List Nr) (hM:M=P++A++C++B++Q) (hM':P++B++C++A++Q=M') (n a b:Nat) (hA:A.length=n) (hB:B.length=n) (ha:P.length=a) (hb:P.length+n+C.length=b) (hl:M.length≤1000000) (fn:FuncId) :
  Yt Tryz.prog 148 3 M.length ((QJ M).map .v) [] [.f (.int .i64 a),.f (.int .i64 b),.f (.int .i64 n),.f (.fn (.func fn))] ((QJ M').map .v) []:=by
 subst hM hM' ha hb
 exact swapR_f P A C B Q n hA hB hl fn
theorem rotate_f (M:List Nr) (a m b:Nat) (h1:a<m) (h2:m<b) (h3:b≤M.length) (hl:M.length≤1000000) (fn:FuncId) :
  Yt Tryz.prog 139 3 M.length ((QJ M).map .v) [] [.f (.int .i64 a),.f (.int .i64 m),.f (.int .i64 b),.f (.fn (.func fn))] ((QJ (rotV M a m b)).map .v) []:=by
 have hst:=rot_start (M:=M) (a:=a) (m:=m) (b:=b) (by omega) (by omega) h3
 have hTl:(rotV M a m b).length=M.length:=by
  have:=congrArg List.length (cut4 (M:=M) (a:=a) (m:=m) (b:=b) (by omega) (by omega) h3)
  unfold rotV
  simp only[List.length_append]at this ⊢
  omega
 unfold Yt FRetH
 rw[QBH]
 generalize rotV M a m b=T at*
 have hN:∃ N,M.length=N:=⟨_,rfl⟩
 obtain⟨N,hN⟩:=hN
 rw[hN]at h3 hl hTl ⊢
 replace hN:=hide hN
 replace hst:=hide hst
 have w1:IntKind.i64.wrap ((m:Int) - (a:Int))=((m - a:Nat):Int):=by rw[QR]<;>omega
 have w2:IntKind.i64.wrap ((b:Int) - (m:Int))=((b - m:Nat):Int):=by rw[QR]<;>omega
 unfold QJ
 refine FCall.of_ax XX ?_
 dsimp only[jm,ji,jf,jl,jL,jn,je,jx,jT,jC,jB,jq,jt,ju,jA,km,kf,kl,kn,kx,VX]
 refine zrs ?_
 repeat'(first|(simp -implicitDefEqProofs only[*,putS,zr,seval,reduceIte,reduceCtorEq])|(apply zk<;>intro hc)|(refine zp ?_)|(refine zd ?_)|fail)
 have hN2:=hN.out
 replace hN2:=hide hN2
 refine QK (S:=List Nr × Nat × Nat) 58 [0,2,4] [] (fun s=>[(10,.f (.int .i64 s.2.1)),(11,.f (.int .i64 s.2.2))]) (fun s=>[(100001,1,.cells ((rowF fNr s.1).map .f))]) (fun s=>s.1.length=N∧0<s.2.1∧0<s.2.2∧s.2.1≤m∧m+s.2.2≤N∧QCJ s.1 T m s.2.1 s.2.2) (fun s=>s.2.1+s.2.2) (M,m - a,b - m) [] ?_ ?_ fun s hs=> ?_
 ·exact⟨hN2.out,by dsimp only;omega,by dsimp only;omega,by dsimp only;omega,by dsimp only;omega,hst.out⟩
 ·refine wk_i ?_ ?_<;>simp only[zw,seval,reduceIte,reduceCtorEq]
 obtain⟨L,i,j⟩:=s
 obtain⟨hLl,hi0,hj0,him,hjm,hr⟩:=hs
 dsimp only at hLl hi0 hj0 him hjm hr ⊢
 refine zrs ?_
 have w3:IntKind.i64.wrap ((m:Int) - (i:Int))=((m - i:Nat):Int):=by rw[QR]<;>omega
 rcases Nat.lt_trichotomy i j with hij|hij|hij
 ·obtain⟨P,A,C,B,Q,e1,e2,e3,e4,e5,e6⟩:=rot_lt hr hi0 hij
  have hS:=QBl L _ P A C B Q e1 rfl i (m - i) (m+j - i) e3 e4 e2 e5 (by omega) fn
  have hl2:(P++B++C++A++Q).length=N:=by
   rw[e1]at hLl
   simp only[List.length_append]at hLl ⊢
   omega
  generalize P++B++C++A++Q=L2 at*
  rw[hLl]at hS
  have d1:decide ((i:Int)=(j:Int))=false:=dcF (by omega)
  have d2:decide ((j:Int)<(i:Int))=false:=dcF (by omega)
  have d3:decide (j<i)=false:=dcF (by omega)
  have d4:decide (i=j)=false:=dcF (by omega)
  have w4:IntKind.i64.wrap ((m:Int)+(j:Int))=((m+j:Nat):Int):=by rw[QR]<;>omega
  have w5:IntKind.i64.wrap (((m+j:Nat):Int) - (i:Int))=((m+j - i:Nat):Int):=by rw[QR]<;>omega
  have w6:IntKind.i64.wrap ((j:Int) - (i:Int))=((j - i:Nat):Int):=by rw[QR]<;>omega
  clear e1
  replace e6:=hide e6
  replace hr:=hide hr
  repeat'(first|(simp -implicitDefEqProofs only[*,zr,seval,reduceIte,reduceCtorEq])|(apply zk<;>intro hc)|(refine zp ?_)|(refine zd ?_)|fail)
  refine VW (by omega) rfl hS rfl 100001 1 ((QJ L).map .f) [] [_,_,_,_] rfl rfl (QU _) rfl (by rw[QB];exact List.nodup_nil) (by rw[QB];simp [idsS]) (LeL.refl _) rfl (by first|exact QQ rfl|exact QQ (by simp)) ?_
  rw[Qe,QX,QB]
  unfold QJ
  repeat'(first|(simp -implicitDefEqProofs only[*,zr,seval,reduceIte,reduceCtorEq])|(apply zk<;>intro hc)|(refine zp ?_)|(refine zd ?_)|fail)
  refine⟨(L2,i,j - i),⟨hl2,hi0,by dsimp only;omega,him,by dsimp only;omega,e6.out⟩,by dsimp only;omega,?_⟩
  refine wk_i ?_ ?_<;>simp only[zw,seval,reduceIte,reduceCtorEq]
 ·subst hij
  obtain⟨P,A,B,Q,e1,e2,e3,e4,e5,e6⟩:=rot_eq hr
  have hS:=QBl L T P A [] B Q e1 e6 i (m - i) m e3 e4 e2 e5 (by omega) fn
  rw[hLl]at hS
  have d1:decide ((i:Int)=(i:Int))=true:=dcT rfl
  have d4:decide (i=i)=true:=dcT rfl
  clear e1 e6
  replace hr:=hide hr
  repeat'(first|(simp -implicitDefEqProofs only[*,zr,seval,reduceIte,reduceCtorEq])|(apply zk<;>intro hc)|(refine zp ?_)|(refine zd ?_)|fail)
  refine VW (by omega) rfl hS rfl 100001 1 ((QJ L).map .f) [] [_,_,_,_] rfl rfl (QU _) rfl (by rw[QB];exact List.nodup_nil) (by rw[QB];simp [idsS]) (LeL.refl _) rfl (by first|exact QQ rfl|exact QQ (by simp)) ?_
  rw[Qe,QX,QB]
  unfold QJ
  repeat'(first|(simp -implicitDefEqProofs only[*,zr,seval,reduceIte,reduceCtorEq])|(apply zk<;>intro hc)|(refine zp ?_)|(refine zd ?_)|fail)
  exact⟨[],(rowF fNr T).map .f,rfl,rfl,QU _,rfl,by rw[QB];exact List.nodup_nil,by rw[QB];simp [idsS]⟩
 ·obtain⟨P,A,C,B,Q,e1,e2,e3,e4,e5,e6⟩:=rot_gt hr hj0 hij
  have hS:=QBl L _ P A C B Q e1 rfl j (m - i) m e3 e4 e2 e5 (by omega) fn
  have hl2:(P++B++C++A++Q).length=N:=by
   rw[e1]at hLl
   simp only[List.length_append]at hLl ⊢
   omega
  generalize P++B++C++A++Q=L2 at*
  rw[hLl]at hS
  have d1:decide ((i:Int)=(j:Int))=false:=dcF (by omega)
  have d2:decide ((j:Int)<(i:Int))=true:=dcT (by omega)
  have d3:decide (j<i)=true:=dcT (by omega)
  have d4:decide (i=j)=false:=dcF (by omega)
  have w6:IntKind.i64.wrap ((i:Int) - (j:Int))=((i - j:Nat):Int):=by rw[QR]<;>omega
  clear e1
  replace e6:=hide e6
  replace hr:=hide hr
  repeat'(first|(simp -implicitDefEqProofs only[*,zr,seval,reduceIte,reduceCtorEq])|(apply zk<;>intro hc)|(refine zp ?_)|(refine zd ?_)|fail)
  refine VW (by omega) rfl hS rfl 100001 1 ((QJ L).map .f) [] [_,_,_,_] rfl rfl (QU _) rfl (by rw[QB];exact List.nodup_nil) (by rw[QB];simp [idsS]) (LeL.refl _) rfl (by first|exact QQ rfl|exact QQ (by simp)) ?_
  rw[Qe,QX,QB]
  unfold QJ
  repeat'(first|(simp -implicitDefEqProofs only[*,zr,seval,reduceIte,reduceCtorEq])|(apply zk<;>intro hc)|(refine zp ?_)|(refine zd ?_)|fail)
  refine⟨(L2,i - j,j),⟨hl2,by dsimp only;omega,hj0,by dsimp only;omega,hjm,e6.out⟩,by dsimp only;omega,?_⟩
  refine wk_i ?_ ?_<;>simp only[zw,seval,reduceIte,reduceCtorEq]
def Vb {α : Type}(P S Q:List α) (x : α) (k:Nat):List α:=P++(S.take k++x::S.drop k)++Q
theorem Mi {α : Type}{P S Q:List α}{x y : α}{k:Nat}(hk:S[k]? = some y):(Vb P S Q x (k+1))[P.length+(k+1)]? = some x∧(Vb P S Q x (k+1))[P.length+k]? = some y∧((Vb P S Q x (k+1)).set (P.length+(k+1)) y).set (P.length+k) x=Vb P S Q x k:=by
 have hkl:=(List.getElem?_eq_some_iff.1 hk).1
 have dS:S.drop k=y::S.drop (k+1):=by obtain⟨h1,h2⟩:=List.getElem?_eq_some_iff.1 hk;rw[List.drop_eq_getElem_cons h1,h2]
 have e1:Vb P S Q x (k+1)=(P++S.take k)++y::x::(S.drop (k+1)++Q):=by
  unfold Vb;rw[List.take_add_one,hk];simp [List.append_assoc]
 have e2:Vb P S Q x (k+1)=(P++S.take k++ [y])++x::(S.drop (k+1)++Q):=by rw[e1];simp [List.append_assoc]
 have l1:(P++S.take k).length=P.length+k:=by rw[List.length_append,List.length_take];omega
 have l2:(P++S.take k++ [y]).length=P.length+(k+1):=by rw[List.length_append,l1];simp;omega
 refine⟨?_,?_,?_⟩
 ·rw[e2,← l2,List.getElem?_append_right (Nat.le_refl _),Nat.sub_self];rfl
 ·rw[e1,← l1,List.getElem?_append_right (Nat.le_refl _),Nat.sub_self];rfl
 ·rw[e2,← l2,List.set_append_right _ _ (Nat.le_refl _),Nat.sub_self,List.set_cons_zero]
  have e3:P++S.take k++ [y]++y::(S.drop (k+1)++Q)=(P++S.take k)++y::y::(S.drop (k+1)++Q):=by simp [List.append_assoc]
  rw[e3,← l1,List.set_append_right _ _ (Nat.le_refl _),Nat.sub_self,List.set_cons_zero]
  unfold Vb
  rw[dS];simp [List.append_assoc]
theorem Nt {α : Type}{P S Q:List α}{x : α}{k:Nat}(hk:k≤S.length):(Vb P S Q x k).length=P.length+S.length+1+Q.length:=by
 unfold Vb
 simp only[List.length_append,List.length_take,List.length_cons,List.length_drop];omega
theorem QBE {α : Type}{P S Q:List α}{x : α} : Vb P S Q x S.length=P++S++(x::Q):=by
 unfold Vb
 rw[List.take_length,List.drop_length];simp [List.append_assoc]
theorem QBD {α : Type}{lt : α→α→Bool}{S:List α}{x : α}{k:Nat}(ho:OrdOn lt (S++ [x])) (hs:Qk lt S) (hk:k≤S.length) (h1:∀ y∈S.drop k,lt x y=true) (h2:k=0∨∃ j y,k=j+1∧S[j]? = some y∧lt x y=false):Qk lt (S.take k++x::S.drop k):=by
 have hsp:Qk lt (S.take k++S.drop k):=by rw[List.take_append_drop];exact hs
 obtain⟨a1,a2,a3⟩:=List.pairwise_append.1 hsp
 refine List.pairwise_append.2 ⟨a1,List.pairwise_cons.2 ⟨h1,a2⟩,fun z hz w hw=> ?_⟩
 rcases List.mem_cons.1 hw with rfl|hw
 ·rcases h2 with rfl|⟨j,y,rfl,hy,hxy⟩
  ·simp at hz
  ·have hyS:=List.mem_of_getElem? hy
   have hyx:lt y w=true:=by
    rcases ho.tot w y (by simp) (by simp [hyS]) hxy with e|e
    ·subst e
     have:=ho.nd
     rw[List.nodup_append]at this
     exact absurd rfl (this.2.2 w hyS w (by simp))
    ·exact e
   rw[List.take_add_one,hy]at hz
   rcases List.mem_append.1 hz with hz|hz
   ·have hzy:lt z y=true:=by
     obtain⟨p,hp⟩:=List.mem_iff_getElem?.1 hz
     have hpj:p<j:=by have:=(List.getElem?_eq_some_iff.1 hp).1;rw[List.length_take]at this;omega
     rw[List.getElem?_take_of_lt hpj]at hp
     obtain⟨b1,b2⟩:=List.getElem?_eq_some_iff.1 hp
     obtain⟨c1,c2⟩:=List.getElem?_eq_some_iff.1 hy
     have:=List.pairwise_iff_getElem.1 hs p j b1 c1 hpj
     rw[b2,c2]at this;exact this
    exact ho.tr z y w (by simp [List.mem_of_mem_take hz]) (by simp [hyS]) (by simp) hzy hyx
   ·rw[Option.toList_some,List.mem_singleton]at hz
    rw[hz];exact hyx
 ·exact a3 z hz w hw
theorem Ki {α : Type}{M:List α}{a i:Nat}{x : α}(ha:a≤i) (hx:M[i]? = some x):segV M a (i+1)=segV M a i++ [x]:=by
 unfold segV
 rw[show i+1 - a=(i - a)+1 by omega,List.take_add_one,List.getElem?_drop,show a+(i - a)=i by omega,hx];rfl
theorem WQ {α : Type}{M:List α}{i:Nat}{x : α}(hx:M[i]? = some x):M.drop i=x::M.drop (i+1):=by
 obtain⟨h1,h2⟩:=List.getElem?_eq_some_iff.1 hx;rw[List.drop_eq_getElem_cons h1,h2]
theorem seg_mem {α : Type}{M:List α}{a b:Nat}{y : α}(h:y∈segV M a b):∃ k:Nat,a≤k∧k<b∧M[k]? = some y:=by
 obtain⟨k,hk⟩:=List.mem_iff_getElem?.1 h
 unfold segV at hk
 have hl:=(List.getElem?_eq_some_iff.1 hk).1
 rw[List.length_take]at hl
 rw[List.getElem?_take_of_lt (by omega),List.getElem?_drop]at hk
 exact⟨a+k,by omega,by omega,hk⟩
theorem QBo {α : Type}{lt : α→α→Bool}{M:List α}{a:Nat} : Vr lt M a a=M:=by
 unfold Vr segV
 rw[Nat.sub_self,List.take_zero,show QW lt []=([]:List α)from rfl,List.append_nil,List.take_append_drop]
theorem QBn {α : Type}{lt : α→α→Bool}{M:List α}{a:Nat}{x : α}(hx:M[a]? = some x):Vr lt M a (a+1)=M:=by
 unfold Vr
 rw[Ki (Nat.le_refl _) hx]
 have:segV M a a = []:=by unfold segV;simp
 rw[this,List.nil_append,show QW lt [x] = [x]from rfl,List.append_assoc]
 show M.take a++(x::M.drop (a+1))=M
 rw[← WQ hx,List.take_append_drop]
theorem ins_start {α : Type}{lt : α→α→Bool}{M:List α}{a i:Nat}{x : α}(h1:a≤i) (hx:M[i]? = some x):Vr lt M a i=Vb (M.take a) (QW lt (segV M a i)) (M.drop (i+1)) x (i - a):=by
 have hi:=(List.getElem?_eq_some_iff.1 hx).1
 have hl:(QW lt (segV M a i)).length=i - a:=by rw[(QV lt _).length_eq];exact UO h1 (by omega)
 rw[← hl,QBE]
 unfold Vr
 rw[WQ hx]
theorem ins_exit {α : Type}{lt : α→α→Bool}{M:List α}{a b i k:Nat}{x : α}(h1:a≤i) (hib:i<b) (hb:b≤M.length) (hx:M[i]? = some x) (ho:OrdOn lt (segV M a b)) (hk:k≤i - a)
  (hg:∀ y∈(QW lt (segV M a i)).drop k,lt x y=true) (h2:k=0∨∃ j y,k=j+1∧(QW lt (segV M a i))[j]? = some y∧lt x y=false):Vb (M.take a) (QW lt (segV M a i)) (M.drop (i+1)) x k=Vr lt M a (i+1):=by
 have hl:(QW lt (segV M a i)).length=i - a:=by rw[(QV lt _).length_eq];exact UO h1 (by omega)
 have hsub:(segV M a (i+1)).Sublist (segV M a b):=by
  unfold segV
  rw[show i+1 - a=min (i+1 - a) (b - a) by omega,← List.take_take];exact List.take_sublist _ _
 have ho1:=ho.sub hsub
 rw[Ki h1 hx]at ho1
 have ho2:OrdOn lt (segV M a i):=ho1.sub (List.sublist_append_left _ _)
 have hsp:=QV lt (segV M a i)
 have hs:=QBD (k:=k) (ho1.perm (hsp.append_right [x])) (VD ho2) (by omega) hg h2
 unfold Vb
 refine QDQ (by omega) (by omega) ?_ ?_ hs
 ·rw[Ki h1 hx];exact ho1
 ·rw[Ki h1 hx]
  refine(List.perm_middle).trans ?_
  rw[List.take_append_drop]
  exact(hsp.cons x).trans (List.perm_append_singleton x _).symm
theorem ins_len {α : Type}{lt : α→α→Bool}{M:List α}{a i k:Nat}{x : α}(h1:a≤i) (hx:M[i]? = some x) (hk:k≤i - a):(Vb (M.take a) (QW lt (segV M a i)) (M.drop (i+1)) x k).length=M.length:=by
 have hi:=(List.getElem?_eq_some_iff.1 hx).1
 have hl:(QW lt (segV M a i)).length=i - a:=by rw[(QV lt _).length_eq];exact UO h1 (by omega)
 rw[Nt (by omega),hl,List.length_take,List.length_drop];omega
theorem ins_step {α : Type}{lt : α→α→Bool}{M:List α}{a i k:Nat}{x : α}(h1:a≤i) (hx:M[i]? = some x) (hk:k+1≤i - a):∃ y j,a≤j∧j<i∧M[j]? = some y∧(QW lt (segV M a i))[k]? = some y∧(QW lt (segV M a i)).drop k=y::(QW lt (segV M a i)).drop (k+1)∧
  (Vb (M.take a) (QW lt (segV M a i)) (M.drop (i+1)) x (k+1))[a+(k+1)]? = some x∧(Vb (M.take a) (QW lt (segV M a i)) (M.drop (i+1)) x (k+1))[a+k]? = some y∧((Vb (M.take a) (QW lt (segV M a i)) (M.drop (i+1)) x (k+1)).set (a+(k+1)) y).set (a+k) x=Vb (M.take a) (QW lt (segV M a i)) (M.drop (i+1)) x k:=by
 have hi:=(List.getElem?_eq_some_iff.1 hx).1
 have hl:(QW lt (segV M a i)).length=i - a:=by rw[(QV lt _).length_eq];exact UO h1 (by omega)
 obtain⟨y,hy⟩:=QH (l:=QW lt (segV M a i)) (i:=k) (by omega)
 obtain⟨j,j1,j2,j3⟩:=seg_mem ((QV lt _).mem_iff.1 (List.mem_of_getElem? hy))
 have:=Mi (P:=M.take a) (Q:=M.drop (i+1)) (x:=x) hy
 rw[QCQ (by omega)]at this
 exact⟨y,j,j1,j2,j3,hy,WQ hy,this⟩
theorem ins_fin {α : Type}{lt : α→α→Bool}{M:List α}{a b i:Nat}(h:b≤i) (h1:a≤b):Vr lt M a (min i b)=Vr lt M a b:=by rw[Nat.min_eq_right h]
theorem QB1 (M:List Nr) (a b:Nat) (lt:Nr→Nr→Bool) (cf:Nr→Nr→Int) (fn:FuncId) (h1:a≤b) (h2:b≤M.length) (hl:M.length≤1000000)
  (hcf:∀ x y,FRet Tryz.prog fn [.agg ((fNr x).map .f),.agg ((fNr y).map .f)] [.c (.v (.int .i64 (cf x y)))]) (ho:OrdOn lt (segV M a b))
  (hk:∀ (i j:Nat) x y,a≤i→i<j→j<b→M[i]? = some y→M[j]? = some x→decide (cf x y<0)=lt x y) :
  Yt Tryz.prog 121 3 M.length ((QJ M).map .v) [] [.f (.int .i64 a),.f (.int .i64 b),.f (.fn (.func fn))] ((QJ (Vr lt M a b)).map .v) []:=by
 unfold Yt FRetH
 rw[QBH]
 have hs5:∀ x:Nr,(fNr x).length=3:=fun _=>rfl
 have hst:Vr lt M a (min (a+1+0) b)=M:=by
  rcases Nat.eq_or_lt_of_le h1 with rfl|hlt
  ·rw[Nat.min_eq_right (by omega)];exact QBo
  ·rw[Nat.min_eq_left (by omega)]
   obtain⟨x,hx⟩:=QH (l:=M) (i:=a) (by omega)
   exact QBn hx
 obtain⟨N,hN⟩:∃ N,M.length=N:=⟨_,rfl⟩
 rw[hN]at h2 hl ⊢
 replace hN:=hide hN
 replace hs5:=hide hs5
 replace hcf:=hide hcf
 replace ho:=hide ho
 replace hk:=hide hk
 replace hst:=hide hst
 have w1:IntKind.i64.wrap ((a:Int)+1)=((a+1:Nat):Int):=by rw[QR]<;>omega
 unfold QJ
 refine FCall.of_ax Qx ?_
 dsimp only[jm,ji,jf,jl,jL,jn,je,jx,jT,jC,jB,jq,jt,ju,jA,km,kf,kl,kn,kx,Qm]
 refine zrs ?_
 repeat'(first|(simp -implicitDefEqProofs only[*,putS,zr,seval,reduceIte,reduceCtorEq])|(apply zk<;>intro hc)|(refine zp ?_)|(refine zd ?_)|fail)
 refine QK (S:=Nat) 53 [0,1,2,3] [] (fun s=>[(8,.f (.int .i64 ((a+1+s:Nat):Int)))]) (fun s=>[(100001,1,.cells ((rowF fNr (Vr lt M a (min (a+1+s) b))).map .f))]) (fun s=>s≤b - a - 1) (fun s=>b - s) (0) [] ?_ ?_ fun s hs=> ?_
 ·exact Nat.zero_le _
 ·rw[hst.out]
  refine wk_i ?_ ?_<;>simp only[zw,seval,reduceIte,reduceCtorEq]
 refine zrs ?_
 obtain⟨o,rfl⟩:∃ o,o=s:=⟨s,rfl⟩
 have hw:IntKind.i64.wrap (((a+1+o:Nat):Int)+1)=((a+1+(o+1):Nat):Int):=by rw[QR]<;>omega
 rcases Nat.lt_or_ge (a+1+o) b with hlt|hge
 ·obtain⟨i,hi⟩:∃ i,a+1+o=i:=⟨_,rfl⟩
  have hmi:min (a+1+o) b=i:=by omega
  have hmi2:min (a+1+(o+1)) b=i+1:=by omega
  have hi2:a+1+(o+1)=i+1:=by omega
  obtain⟨x,hx⟩:=QH (l:=M) (i:=i) (by have:=hN.out;omega)
  have hai:a≤i:=by omega
  rw[hmi,ins_start hai hx]
  rw[hi2]at hw
  rw[hi]at hw hlt ⊢
  have hex:=fun k=>ins_exit (k:=k) hai hlt (by have:=hN.out;omega) hx ho.out
  have hln:=fun k=>ins_len (lt:=lt) (k:=k) hai hx
  have hsp:=fun k=>ins_step (lt:=lt) (k:=k) hai hx
  have hd0:(QW lt (segV M a i)).drop (i - a) = []:=by
   apply List.drop_of_length_le
   rw[(QV lt _).length_eq,show(segV M a i).length=i - a from UO hai (by have:=hN.out;omega)];exact Nat.le_refl _
  have hkx:=fun j y (h1:a≤j) (h2:j<i) (h3:M[j]? = some y)=>hk.out j i x y h1 h2 hlt h3 hx
  have hia:a+(i - a)=i:=by omega
  have h2:=lt_t hlt
  generalize QW lt (segV M a i)=S at*
  generalize hF:Vb (M.take a) S (M.drop (i+1)) x=F at*
  replace hF:=hide hF
  replace hex:=hide hex
  replace hln:=hide hln
  replace hsp:=hide hsp
  replace hd0:=hide hd0
  replace hkx:=hide hkx
  replace hx:=hide hx
  replace hi:=hide hi
  replace hmi:=hide hmi
  replace hmi2:=hide hmi2
  replace hi2:=hide hi2
  repeat'(first|(simp -implicitDefEqProofs only[*,zr,seval,reduceIte,reduceCtorEq])|(apply zk<;>intro hc)|(refine zp ?_)|(refine zd ?_)|fail)
  refine QK (S:=Nat) 53 [0,1,2,3,8] [] (fun s=>[(9,.f (.int .i64 ((a+s:Nat):Int)))]) (fun s=>[(100001,1,.cells ((rowF fNr (F s)).map .f))]) (fun s=>s≤i - a∧∀ y∈S.drop s,lt x y=true) (fun s=>s) (i - a) [] ?_ ?_ fun s hs=> ?_
  ·exact⟨Nat.le_refl _,by rw[hd0.out];intro y hy;cases hy⟩
  ·rw[hia]
   refine wk_i ?_ ?_<;>simp only[zw,seval,reduceIte,reduceCtorEq]
  rename_i k
  obtain⟨hk1,hk2⟩:=hs
  refine zrs ?_
  rcases s with _|s
  ·have hE:=hex.out 0 (Nat.zero_le _) hk2 (Or.inl rfl)
   have d1:decide (((a+0:Nat):Int) > (a:Int))=false:=dcF (by omega)
   have d2:decide ((a:Int)<((a+0:Nat):Int))=false:=dcF (by omega)
   have d3:decide (a<a+0)=false:=dcF (by omega)
   have d4:decide (a<a)=false:=dcF (by omega)
   have d5:decide ((a:Int)<(a:Int))=false:=dcF (by omega)
   rw[hE]
   replace hE:=hide hE
   have hon:o+1≤b - a - 1:=by have:=hi.out;omega
   repeat'(first|(simp -implicitDefEqProofs only[*,zr,seval,reduceIte,reduceCtorEq])|(apply zk<;>intro hc)|(refine zp ?_)|(refine zd ?_)|fail)
   refine⟨o+1,hon,by omega,?_⟩
   rw[hmi2.out,hi2.out]
   refine wk_i ?_ ?_<;>simp only[zw,seval,reduceIte,reduceCtorEq]
  ·obtain⟨y,jj,q1,q2,q3,q4,q5,q6,q7,q8⟩:=hsp.out s hk1
   have hc0:=hkx.out jj y q1 q2 q3
   have hFl:=hln.out (s+1) hk1
   rw[hN.out]at hFl
   have w2:IntKind.i64.wrap (((a+(s+1):Nat):Int) - 1)=((a+s:Nat):Int):=by rw[QR]<;>omega
   have d1:decide (((a+(s+1):Nat):Int) > (a:Int))=true:=dcT (by omega)
   have d2:decide ((a:Int)<((a+(s+1):Nat):Int))=true:=dcT (by omega)
   have d3:decide (a<a+(s+1))=true:=dcT (by omega)
   have hi1:a+(s+1)<N:=by omega
   have hi0:a+s<N:=by omega
   generalize hL':F s=L' at*
   generalize hL:F (s+1)=L at*
   generalize hj1:a+(s+1)=i1 at*
   generalize hj0:a+s=i0 at*
   replace hL:=hide hL
   replace hL':=hide hL'
   replace hj1:=hide hj1
   replace hj0:=hide hj0
   have hld1:=XE (enc:=fNr) hs5.out q6
   have hld0:=XE (enc:=fNr) hs5.out q7
   have hin1:=XL (enc:=fNr) (l:=L) hs5.out (by omega:i1<L.length)
   have hin0:=XL (enc:=fNr) (l:=L) hs5.out (by omega:i0<L.length)
   have hst1:=ZS (enc:=fNr) (x:=y) (l:=L) hs5.out (by omega:i1<L.length)
   have hst2:=ZS (enc:=fNr) (x:=x) (l:=L.set i1 y) hs5.out (by rw[List.length_set];omega:i0<(L.set i1 y).length)
   have hin3:=XL (enc:=fNr) (l:=L.set i1 y) hs5.out (by rw[List.length_set];omega:i0<(L.set i1 y).length)
   rw[q8]at hst2
   simp only[fNr,List.map_cons,List.map_nil,List.length_map,splice]at hld1 hld0 hin1 hin0 hst1 hst2 hin3
   have p1:(i1<N)=True:=by rw[eq_iff_iff,iff_true];exact hi1
   have p2:(i0<N)=True:=by rw[eq_iff_iff,iff_true];exact hi0
   have p3:=YO (show i1+1≤N by omega)
   have p4:=YO (show i0+1≤N by omega)
   replace q3:=hide q3
   replace q4:=hide q4
   replace q5:=hide q5
   replace q6:=hide q6
   replace q7:=hide q7
   replace q8:=hide q8
   replace hk2:=hide hk2
   rcases hcc:lt x y with _|_
   ·rw[hcc]at hc0
    have hE:=hex.out (s+1) hk1 hk2.out (Or.inr ⟨s,y,rfl,q4.out,hcc⟩)
    rw[hL.out]at hE
    replace hE:=hide hE
    replace hcc:=hide hcc
    have hon:o+1≤b - a - 1:=by have:=hi.out;omega
    repeat'(first|(simp -implicitDefEqProofs only[*,zr,seval,reduceIte,reduceCtorEq])|(apply zk<;>intro hc)|(refine zp ?_)|(refine zd ?_)|(refine cP (hcf.out x y) ?_)|(refine cD (hcf.out x y) ?_)|(refine cF (hcf.out x y) ?_)|fail)
    refine⟨o+1,hon,by omega,?_⟩
    rw[hmi2.out,hi2.out,← hE.out]
    refine wk_i ?_ ?_<;>simp only[zw,seval,reduceIte,reduceCtorEq]
   ·rw[hcc]at hc0
    replace hcc:=hide hcc
    repeat'(first|(simp -implicitDefEqProofs only[*,zr,seval,reduceIte,reduceCtorEq])|(apply zk<;>intro hc)|(refine zp ?_)|(refine zd ?_)|(refine cP (hcf.out x y) ?_)|(refine cD (hcf.out x y) ?_)|(refine cF (hcf.out x y) ?_)|fail)
    refine⟨s,⟨by omega,?_⟩,by omega,?_⟩
    ·intro z hz
     rw[q5.out]at hz
     rcases List.mem_cons.1 hz with rfl|hz
     ·exact hcc.out
     ·exact hk2.out z hz
    rw[hj0.out,hL'.out]
    refine wk_i ?_ ?_<;>simp only[zw,seval,reduceIte,reduceCtorEq]
 ·have hE:=ins_fin (lt:=lt) (M:=M) hge h1
  have h2:=lt_f hge
  rw[hE]
  repeat'(first|(simp -implicitDefEqProofs only[*,zr,seval,reduceIte,reduceCtorEq])|(apply zk<;>intro hc)|(refine zp ?_)|(refine zd ?_)|fail)
  exact⟨[],(rowF fNr (Vr lt M a b)).map .f,rfl,rfl,QU _,rfl,by rw[QB];exact List.nodup_nil,by rw[QB];simp [idsS]⟩
end Go.Proofs.YtjfchihkhpinmaaGreatDoor
