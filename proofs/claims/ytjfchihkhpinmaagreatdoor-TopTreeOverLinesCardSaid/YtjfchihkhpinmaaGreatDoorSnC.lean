/-
  slices.SortStableFunc at nodes of a directory. No statement of the seat is proved here; no conditions.
-/
import Derived.Test.YtjfchihkhpinmaaGreatDoorSnB
namespace Go.Proofs.YtjfchihkhpinmaaGreatDoor
open Go.RowKit Go.Shelf
set_option linter.unusedVariables false
set_option linter.unusedSimpArgs false
set_option maxRecDepth 100000

section
variable {α : Type}{lt : α→α→Bool}
def bk (M:List α) (a c:Nat):List α:=(M.drop a).take c
def ch (lt : α→α→Bool) (bs:Nat) (M:List α):Nat→Nat→List α
 | j,0=>[]
 | j,m+1=>QW lt (bk M (j*bs) bs)++ch lt bs M (j+1) m
theorem bk_nil {M:List α}{a c:Nat}(h:M.length≤a):bk M a c = []:=by unfold bk;rw[List.drop_of_length_le h,List.take_nil]
theorem bk_len {M:List α}{a c:Nat}(h:a≤M.length):(bk M a c).length=min c (M.length - a):=by unfold bk;rw[List.length_take,List.length_drop]
theorem bk_len' {M:List α}{a c:Nat}(h:a+c≤M.length):(bk M a c).length=c:=by rw[bk_len (by omega)];omega
theorem bk_two {M:List α}{a c:Nat} : bk M a (2*c)=bk M a c++bk M (a+c) c:=by
 unfold bk
 rw[← List.drop_drop,Nat.two_mul,List.take_add]
theorem bk_mem {M:List α}{a c:Nat}{y : α}(h:y∈bk M a c):∃ k:Nat,a≤k∧k<a+c∧M[k]? = some y:=by
 obtain⟨k,hk⟩:=List.mem_iff_getElem?.1 h
 unfold bk at hk
 have hl:=(List.getElem?_eq_some_iff.1 hk).1
 rw[List.length_take]at hl
 rw[List.getElem?_take_of_lt (by omega),List.getElem?_drop]at hk
 exact⟨a+k,by omega,by omega,hk⟩
theorem Uk {l:List α} : (QW lt l).length=l.length:=(QV lt l).length_eq
theorem QCB {bs:Nat}{M:List α} : ∀ {m j:Nat},ch lt bs M j (m+1)=ch lt bs M j m++QW lt (bk M ((j+m)*bs) bs)
 | 0,j=>by simp [ch]
 | m+1,j=>by
  show QW lt (bk M (j*bs) bs)++ch lt bs M (j+1) (m+1)=_
  rw[QCB (m:=m) (j:=j+1)]
  show _=QW lt (bk M (j*bs) bs)++ch lt bs M (j+1) m++_
  rw[List.append_assoc,show j+1+m=j+(m+1) by omega]
theorem ch_nil {bs:Nat}{M:List α} : ∀ {m j:Nat},M.length≤j*bs→ch lt bs M j m = []
 | 0,j,h=>rfl
 | m+1,j,h=>by
  show QW lt (bk M (j*bs) bs)++ch lt bs M (j+1) m = []
  rw[bk_nil h,ch_nil (j:=j+1) (by rw[Nat.succ_mul];omega)];rfl
theorem QAI {bs:Nat}{M:List α} : ∀ {m t j:Nat},ch lt bs M j (m+t)=ch lt bs M j m++ch lt bs M (j+m) t
 | 0,t,j=>by rw[Nat.zero_add,Nat.add_zero];rfl
 | m+1,t,j=>by
  rw[show m+1+t=(m+t)+1 by omega]
  show QW lt (bk M (j*bs) bs)++ch lt bs M (j+1) (m+t)=QW lt (bk M (j*bs) bs)++ch lt bs M (j+1) m++ch lt bs M (j+(m+1)) t
  rw[QAI (m:=m) (t:=t) (j:=j+1),List.append_assoc,show j+1+m=j+(m+1) by omega]
theorem QCC {bs:Nat}{M:List α}{m t j:Nat}(h:M.length≤(j+m)*bs):ch lt bs M j (m+t)=ch lt bs M j m:=by
 rw[QAI,ch_nil h,List.append_nil]
theorem Mn {bs:Nat}{M:List α} : ∀ {m j:Nat},(j+m)*bs≤M.length→(ch lt bs M j m).length=m*bs
 | 0,j,_=>by simp [ch]
 | m+1,j,h=>by
  show(QW lt (bk M (j*bs) bs)++ch lt bs M (j+1) m).length=_
  have e:j+1+m=j+(m+1):=by omega
  have e2:(j+(m+1))*bs=j*bs+(m*bs+bs):=by rw[Nat.add_mul,Nat.succ_mul]
  rw[List.length_append,Uk,Mn (by rw[e];exact h),Nat.succ_mul,bk_len' (by omega)];omega
theorem ch_all {bs:Nat}{M:List α}{m t j:Nat}(h:M.length≤(j+m)*bs) (h2:M.length≤(j+t)*bs):ch lt bs M j m=ch lt bs M j t:=by
 rw[← QCC (t:=t) h,← QCC (t:=m) h2,Nat.add_comm]
theorem n_le {n j bs:Nat}(h:0<bs):n≤(j+n)*bs:=by
 have h1:(j+n)*1≤(j+n)*bs:=Nat.mul_le_mul_left _ h
 omega
theorem st_ins {bs k b:Nat}{M:List α}(h1:k*bs≤M.length) (hb:b=min (k*bs+bs) M.length):Vr lt (ch lt bs M 0 k++M.drop (k*bs)) (k*bs) b=ch lt bs M 0 (k+1)++M.drop ((k+1)*bs)∧segV (ch lt bs M 0 k++M.drop (k*bs)) (k*bs) b=bk M (k*bs) bs:=by
 have hl:(ch lt bs M 0 k).length=k*bs:=Mn (by rw[Nat.zero_add];exact h1)
 have e3:segV (ch lt bs M 0 k++M.drop (k*bs)) (k*bs) b=bk M (k*bs) bs:=by
  unfold segV bk
  rw[List.drop_left' hl]
  rcases Nat.le_total (k*bs+bs) M.length with h|h
  ·rw[hb,Nat.min_eq_left h,Nat.add_sub_cancel_left]
  ·rw[hb,Nat.min_eq_right h,List.take_of_length_le (by rw[List.length_drop];omega),List.take_of_length_le (by rw[List.length_drop];omega)]
 refine⟨?_,e3⟩
 unfold Vr
 rw[e3,List.take_left' hl,QCB,Nat.zero_add]
 congr 1
 rw[show b=k*bs+(b - k*bs) by omega,← List.drop_drop,List.drop_left' hl,List.drop_drop,Nat.succ_mul]
 rcases Nat.le_total (k*bs+bs) M.length with h|h
 ·congr 1;omega
 ·rw[List.drop_of_length_le (by omega),List.drop_of_length_le (by omega)]
theorem QAY {bs k i:Nat}{M:List α}{x : α}(h1:k*bs≤M.length) (hi:k*bs≤i) (h:(ch lt bs M 0 k++M.drop (k*bs))[i]? = some x):M[i]? = some x:=by
 have hl:(ch lt bs M 0 k).length=k*bs:=Mn (by rw[Nat.zero_add];exact h1)
 rw[List.getElem?_append_right (by omega),List.getElem?_drop,hl,show k*bs+(i - k*bs)=i by omega]at h;exact h
theorem QDP {bs k:Nat}{M:List α}(h1:k*bs≤M.length):(ch lt bs M 0 k++M.drop (k*bs)).length=M.length:=by
 have hl:(ch lt bs M 0 k).length=k*bs:=Mn (by rw[Nat.zero_add];exact h1)
 rw[List.length_append,hl,List.length_drop];omega
theorem KT {M:List α}{a c:Nat} : (bk M a c).Sublist M:=(List.take_sublist _ _).trans (List.drop_sublist _ _)
theorem st_end1 {bs k:Nat}{M:List α}(hb:0<bs) (h:M.length≤(k+1)*bs):ch lt bs M 0 (k+1)++M.drop ((k+1)*bs)=ch lt bs M 0 M.length:=by
 rw[List.drop_of_length_le h,List.append_nil,ch_all (t:=M.length) (by rw[Nat.zero_add];exact h) (n_le hb)]
def two (lt : α→α→Bool) (bs:Nat) (M:List α) (k:Nat):List α:=ch lt (2*bs) M 0 k++ch lt bs M (2*k) M.length
theorem Ui {k bs:Nat} : k*(2*bs)=2*k*bs:=by rw[← Nat.mul_assoc,Nat.mul_comm k 2]
theorem two_0 {bs:Nat}{M:List α} : two lt bs M 0=ch lt bs M 0 M.length:=by unfold two;rfl
theorem two_end {bs k:Nat}{M:List α}(hb:0<bs) (h:M.length≤(k+1)*(2*bs)):two lt bs M (k+1)=ch lt (2*bs) M 0 M.length:=by
 unfold two
 rw[ch_nil (bs:=bs) (j:=2*(k+1)) (by rw[← Ui];exact h),List.append_nil,ch_all (t:=M.length) (by rw[Nat.zero_add];exact h) (n_le (by omega))]
theorem two_cut {bs k:Nat}{M:List α}(hb:0<bs):two lt bs M k=ch lt (2*bs) M 0 k++QW lt (bk M (k*(2*bs)) bs)++QW lt (bk M (k*(2*bs)+bs) bs)++ch lt bs M (2*(k+1)) M.length:=by
 unfold two
 rw[← QCC (t:=2) (j:=2*k) (m:=M.length) (n_le hb),Nat.add_comm M.length 2,QAI]
 show _++(QW lt (bk M (2*k*bs) bs)++(QW lt (bk M ((2*k+1)*bs) bs)++ [])++_)=_
 rw[List.append_nil,Ui,Nat.succ_mul (2*k),show 2*(k+1)=2*k+2 by omega]
 simp only[List.append_assoc]
theorem QCO {bs k:Nat}{M:List α}(ho:OrdOn lt M):ch lt (2*bs) M 0 k++QW lt (QW lt (bk M (k*(2*bs)) bs)++QW lt (bk M (k*(2*bs)+bs) bs))++ch lt bs M (2*(k+1)) M.length=two lt bs M (k+1):=by
 unfold two
 have e:QW lt (QW lt (bk M (k*(2*bs)) bs)++QW lt (bk M (k*(2*bs)+bs) bs))=QW lt (bk M (k*(2*bs)) (2*bs)):=by
  refine Uj (ho.sub KT) ?_ (VD ((ho.sub (KT (a:=k*(2*bs)) (c:=2*bs))).perm ?_))
  ·rw[bk_two]
   exact(QV lt _).trans ((QV lt _).append (QV lt _))
  ·rw[bk_two]
   exact(QV lt _).append (QV lt _)
 rw[e,QCB,Nat.zero_add]
theorem two_skip {bs k:Nat}{M:List α}(ho:OrdOn lt M) (hb:0<bs) (h:M.length≤k*(2*bs)+bs):two lt bs M k=two lt bs M (k+1):=by
 rw[← QCO ho,two_cut hb]
 have e:bk M (k*(2*bs)+bs) bs = []:=bk_nil h
 rw[e]
 show _++QW lt (bk M (k*(2*bs)) bs)++ []++_=_++QW lt (QW lt (bk M (k*(2*bs)) bs)++ [])++_
 rw[List.append_nil,List.append_nil,OE ((ho.sub KT).perm (QV lt _)) (VD (ho.sub KT))]
theorem ch_one {bs:Nat}{M:List α}(h:M.length≤bs):ch lt bs M 0 M.length=QW lt M:=by
 rcases Nat.eq_zero_or_pos M.length with h0|h0
 ·rw[h0]
  have:M = []:=List.eq_nil_of_length_eq_zero h0
  subst this;rfl
 ·rw[ch_all (t:=1) (by rw[Nat.zero_add];have:=Nat.mul_le_mul_left M.length (show 1≤bs by omega);omega) (by omega)]
  show QW lt (bk M (0*bs) bs)++ []=_
  unfold bk
  rw[List.append_nil,Nat.zero_mul,List.drop_zero,List.take_of_length_le h]
theorem two_len {bs k:Nat}{M:List α}(hb:0<bs) (h:k*(2*bs)+bs<M.length):(ch lt (2*bs) M 0 k).length=k*(2*bs)∧(QW lt (bk M (k*(2*bs)) bs)).length=bs∧(QW lt (bk M (k*(2*bs)+bs) bs)).length=min bs (M.length - (k*(2*bs)+bs)):=by
 refine⟨Mn (by rw[Nat.zero_add];omega),by rw[Uk,bk_len' (by omega)],by rw[Uk,bk_len (by omega)]⟩
theorem MA {bs:Nat}{M:List α} : ∀ {m j:Nat},M.length≤(j+m)*bs→(ch lt bs M j m).length=M.length - j*bs
 | 0,j,h=>by rw[Nat.add_zero]at h;show 0=_;omega
 | m+1,j,h=>by
  show(QW lt (bk M (j*bs) bs)++ch lt bs M (j+1) m).length=_
  rw[List.length_append,Uk,MA (by rw[show j+1+m=j+(m+1) by omega];exact h),Nat.succ_mul]
  rcases Nat.le_total (j*bs) M.length with h1|h1
  ·rw[bk_len h1];omega
  ·rw[bk_nil h1];simp only[List.length_nil];omega
theorem two_lenM {bs k:Nat}{M:List α}(hb:0<bs) (h:k*(2*bs)≤M.length):(two lt bs M k).length=M.length:=by
 unfold two
 rw[List.length_append,Mn (by rw[Nat.zero_add];exact h),MA (n_le hb),Ui]
 rw[Ui]at h
 omega
end
theorem sym_all (lt:Nr→Nr→Bool) (cf:Nr→Nr→Int) (fn:FuncId) (hcf:∀ x y,FRet Tryz.prog fn [.agg ((fNr x).map .f),.agg ((fNr y).map .f)] [.c (.v (.int .i64 (cf x y)))]):∀ k,SymAll lt cf fn k
 | 0=>fun P A B Q h=>absurd h (Nat.not_lt_zero _)
 | k+1=>fun P A B Q h hA0 hB0 hA hB ho hc hl=>by
  have IH:=sym_all lt cf fn hcf k
  rcases Nat.lt_or_ge (A.length+B.length) k with h1|h1
  ·exact IH P A B Q h1 hA0 hB0 hA hB ho hc hl
  ·rcases Nat.lt_or_ge A.length 2 with hA2|hA2
   ·obtain⟨x,rfl⟩:∃ x,A = [x]:=List.length_eq_one_iff.1 (by omega)
    exact sym_left P B Q x lt cf fn hl hcf hB ho hc
   ·rcases Nat.lt_or_ge B.length 2 with hB2|hB2
    ·obtain⟨x,rfl⟩:∃ x,B = [x]:=List.length_eq_one_iff.1 (by omega)
     exact sym_right P A Q x lt cf fn hA2 hl hcf hA ho hc
    ·exact sym_gen P A B Q lt cf fn IH (by omega) hA2 hB2 hl hcf hA hB ho hc
def InsR (fn:FuncId) (N a b:Nat) (M T:List Nr):Prop:=Yt Tryz.prog 121 3 N ((QJ M).map .v) [] [.f (.int .i64 a),.f (.int .i64 b),.f (.fn (.func fn))] ((QJ T).map .v) []
theorem st_insR {lt:Nr→Nr→Bool}{cf:Nr→Nr→Int}{fn:FuncId}(hcf:∀ x y,FRet Tryz.prog fn [.agg ((fNr x).map .f),.agg ((fNr y).map .f)] [.c (.v (.int .i64 (cf x y)))]){M:List Nr}(hl:M.length≤1000000) (ho:OrdOn lt M) (hk:∀ (i j:Nat) x y,i<j→M[i]? = some y→M[j]? = some x→decide (cf x y<0)=lt x y){bs k b:Nat}(h1:k*bs≤M.length) (hb:b=min (k*bs+bs) M.length) :
  InsR fn M.length (k*bs) b (ch lt bs M 0 k++M.drop (k*bs)) (ch lt bs M 0 (k+1)++M.drop ((k+1)*bs)):=by
 obtain⟨e1,e2⟩:=st_ins (lt:=lt) h1 hb
 have hL:=QDP (lt:=lt) h1
 have:=QB1 (ch lt bs M 0 k++M.drop (k*bs)) (k*bs) b lt cf fn (by omega) (by omega) (by omega) hcf (by rw[e2];exact ho.sub KT) (fun i j x y h3 h4 h5 h6 h7=>hk i j x y h4 (QAY h1 h3 h6) (QAY h1 (by omega) h7))
 rw[e1,hL]at this
 exact this
theorem st_symR {lt:Nr→Nr→Bool}{cf:Nr→Nr→Int}{fn:FuncId}(hcf:∀ x y,FRet Tryz.prog fn [.agg ((fNr x).map .f),.agg ((fNr y).map .f)] [.c (.v (.int .i64 (cf x y)))]){M:List Nr}(hl:M.length≤1000000) (ho:OrdOn lt M) (hk:∀ (i j:Nat) x y,i<j→M[i]? = some y→M[j]? = some x→decide (cf x y<0)=lt x y){bs k b:Nat}(hbs:0<bs) (h1:k*(2*bs)+bs<M.length) (hb:b=min (k*(2*bs)+2*bs) M.length) :
  SymR fn M.length (k*(2*bs)) (k*(2*bs)+bs) b (two lt bs M k) (two lt bs M (k+1)):=by
 obtain⟨l1,l2,l3⟩:=two_len (lt:=lt) hbs h1
 have hcut:=two_cut (lt:=lt) (k:=k) (M:=M) hbs
 have hnx:=QCO (bs:=bs) (k:=k) ho
 have ho2:OrdOn lt (QW lt (bk M (k*(2*bs)) bs)++QW lt (bk M (k*(2*bs)+bs) bs)):=by
  refine(ho.sub (KT (a:=k*(2*bs)) (c:=2*bs))).perm ?_
  rw[bk_two]
  exact(QV lt _).append (QV lt _)
 have hlen:(two lt bs M k).length=M.length:=by
  have h2:∀ L T:List Nr,T=L→L.length=M.length→T.length=M.length:=fun L T e h=>by rw[e,h]
  have hlt:=two_lenM (lt:=lt) (M:=M) (k:=k) hbs (by omega)
  exact hlt
 have:=sym_all lt cf fn hcf (M.length+M.length+1) (ch lt (2*bs) M 0 k) (QW lt (bk M (k*(2*bs)) bs)) (QW lt (bk M (k*(2*bs)+bs) bs)) (ch lt bs M (2*(k+1)) M.length) (by omega) (by omega) (by omega) (VD (ho.sub KT)) (VD (ho.sub KT)) ho2 (fun z hz y hy=>by
   obtain⟨j,j1,j2,j3⟩:=bk_mem ((QV lt _).mem_iff.1 hz)
   obtain⟨i,i1,i2,i3⟩:=bk_mem ((QV lt _).mem_iff.1 hy)
   exact hk i j z y (by omega) i3 j3) (by rw[← hcut,hlen];exact hl)
 rw[← hcut,hlen,hnx,l1,l2,l3,show k*(2*bs)+bs+min bs (M.length - (k*(2*bs)+bs))=b by omega]at this
 exact this
theorem QAX {lt:Nr→Nr→Bool}{cf:Nr→Nr→Int}{fn:FuncId}(hcf:∀ x y,FRet Tryz.prog fn [.agg ((fNr x).map .f),.agg ((fNr y).map .f)] [.c (.v (.int .i64 (cf x y)))]){M:List Nr}(hl:M.length≤1000000) (ho:OrdOn lt M) (hk:∀ (i j:Nat) x y,i<j→M[i]? = some y→M[j]? = some x→decide (cf x y<0)=lt x y) :
  ∃ (F G:Nat→List Nr) (T:Nat→Nat→List Nr),(∀ k b:Nat,k*20≤M.length→b=min (k*20+20) M.length→InsR fn M.length (k*20) b (F k) (F (k+1)))∧F 0=M∧(∀ k,M.length≤(k+1)*20→F (k+1)=G 20)∧
   (∀ s k b:Nat,0<s→k*(2*s)+s<M.length→b=min (k*(2*s)+2*s) M.length→SymR fn M.length (k*(2*s)) (k*(2*s)+s) b (T s k) (T s (k+1)))∧(∀ s,T s 0=G s)∧(∀ s k,0<s→M.length≤(k+1)*(2*s)→T s (k+1)=G (2*s))∧(∀ s k,0<s→M.length≤k*(2*s)+s→T s k=T s (k+1))∧(∀ s,M.length≤s→G s=QW lt M):=
 ⟨fun k=>ch lt 20 M 0 k++M.drop (k*20),fun s=>ch lt s M 0 M.length,fun s k=>two lt s M k,fun k b h1 h2=>st_insR hcf hl ho hk h1 h2,by simp [ch],fun k h=>st_end1 (by omega) h,
  fun s k b h0 h1 h2=>st_symR hcf hl ho hk h0 h1 h2,fun s=>two_0,fun s k h0 h=>two_end h0 h,fun s k h0 h=>two_skip ho h0 h,fun s h=>ch_one h⟩
set_option maxHeartbeats 2000000 in
theorem stable_f (M:List Nr) (lt:Nr→Nr→Bool) (cf:Nr→Nr→Int) (fn:FuncId) (hcf:∀ x y,FRet Tryz.prog fn [.agg ((fNr x).map .f),.agg ((fNr y).map .f)] [.c (.v (.int .i64 (cf x y)))]) (hn0:0<M.length) (hl:M.length≤1000000) (ho:OrdOn lt M) (hk:∀ (i j:Nat) x y,i<j→M[i]? = some y→M[j]? = some x→decide (cf x y<0)=lt x y) :
  Yt Tryz.prog 93 3 M.length ((QJ M).map .v) [] [.f (.int .i64 M.length),.f (.fn (.func fn))] ((QJ (QW lt M)).map .v) []:=by
 obtain⟨F,G,T,b1,b2,b3,b4,b5,b6,b7,b8⟩:=QAX hcf hl ho hk
 unfold Yt FRetH
 rw[QBH]
 generalize QW lt M=Z at*
 generalize M.length=N at*
 clear hcf ho hk
 replace b1:=hide b1
 replace b2:=hide b2
 replace b3:=hide b3
 replace b4:=hide b4
 replace b5:=hide b5
 replace b6:=hide b6
 replace b7:=hide b7
 replace b8:=hide b8
 unfold QJ
 refine FCall.of_ax VV ?_
 dsimp only[jm,ji,jf,jl,jL,jn,je,jx,jT,jC,jB,jq,jt,ju,jA,km,kf,kl,kn,kx,Qw]
 refine zrs ?_
 repeat'(first|(simp -implicitDefEqProofs only[*,putS,zr,seval,reduceIte,reduceCtorEq])|(apply zk<;>intro hc)|(refine zp ?_)|(refine zd ?_)|fail)
 refine QK (S:=Nat) 63 [0,1,2,6] [] (fun s=>[(7,.f (.int .i64 ((s*20:Nat):Int))),(8,.f (.int .i64 ((s*20+20:Nat):Int)))]) (fun s=>[(100001,1,.cells ((rowF fNr (F s)).map .f))]) (fun s=>s*20≤N) (fun s=>N+20 - s*20) (0) [] ?_ ?_ fun s hs=> ?_
 ·exact Nat.zero_le _
 ·rw[b2.out,show((0*20:Nat):Int)=0 from rfl,show((0*20+20:Nat):Int)=20 from rfl]
  refine wk_i ?_ ?_<;>simp only[zw,seval,reduceIte,reduceCtorEq]
 refine zrs ?_
 rcases Nat.lt_or_ge N (s*20+20)with hgt|hle
 ·have d1:decide (s*20+20≤N)=false:=dcF (by omega)
  have d2:decide (((s*20+20:Nat):Int)≤(N:Int))=false:=dcF (by omega)
  have hS:=b1.out s N hs (by omega)
  have hE:=b3.out s (by omega)
  rw[hE]at hS
  clear hE
  generalize hF:F s=Fs at*
  generalize hG:G 20=G20 at*
  replace hF:=hide hF
  replace hG:=hide hG
  repeat'(first|(simp -implicitDefEqProofs only[*,zr,seval,reduceIte,reduceCtorEq])|(apply zk<;>intro hc)|(refine zp ?_)|(refine zd ?_)|fail)
  refine VW (by omega) rfl hS rfl 100001 1 ((QJ _).map .f) [] [_,_,_] rfl rfl (QU _) rfl (by rw[QB];exact List.nodup_nil) (by rw[QB];simp [idsS]) (LeL.refl _) rfl (by repeat (first|exact Vx|exact QQ (by simp)|refine Qa rfl ?_)) ?_
  rw[Qe,QX,QB]
  unfold QJ
  repeat'(first|(simp -implicitDefEqProofs only[*,zr,seval,reduceIte,reduceCtorEq])|(apply zk<;>intro hc)|(refine zp ?_)|(refine zd ?_)|fail)
  rw[← hG.out]
  clear hS
  refine QK (S:=Nat) 63 [0,1,2] [] (fun s=>[(6,.f (.int .i64 (s:Int)))]) (fun s=>[(100001,1,.cells ((rowF fNr (G s)).map .f))]) (fun s=>20≤s∧s≤2000000) (fun s=>N - s) (20) [] ?_ ?_ fun s hs=> ?_
  ·exact⟨Nat.le_refl _,by decide⟩
  ·rw[show((20:Nat):Int)=20 from rfl]
   refine wk_i ?_ ?_<;>simp only[zw,seval,reduceIte,reduceCtorEq]
  obtain⟨g1,g2⟩:=hs
  refine zrs ?_
  rcases Nat.lt_or_ge s N with hlt|hge
  ·have h2:=lt_t hlt
   have w1:IntKind.i64.wrap (2*(s:Int))=((2*s:Nat):Int):=by rw[QR]<;>omega
   have w2:IntKind.i64.wrap ((s:Int)*2)=((2*s:Nat):Int):=by rw[QR]<;>omega
   obtain⟨c,hc⟩:∃ c,2*s=c:=⟨_,rfl⟩
   have e4:=b4.out s
   have e5:=b5.out s
   have e6:=b6.out s
   have e7:=b7.out s
   rw[hc]at w1 w2 e4 e6 e7
   rw[← e5]
   generalize T s=Ts at*
   replace e4:=hide e4
   replace e5:=hide e5
   replace e6:=hide e6
   replace e7:=hide e7
   replace hc:=hide hc
   repeat'(first|(simp -implicitDefEqProofs only[*,zr,seval,reduceIte,reduceCtorEq])|(apply zk<;>intro hc)|(refine zp ?_)|(refine zd ?_)|fail)
   refine QK (S:=Nat) 63 [0,1,2,6] [] (fun s=>[(7,.f (.int .i64 ((s*c:Nat):Int))),(8,.f (.int .i64 ((s*c+c:Nat):Int)))]) (fun s=>[(100001,1,.cells ((rowF fNr (Ts s)).map .f))]) (fun s=>s*c≤N) (fun s=>N+c - s*c) (0) [] ?_ ?_ fun s hs=> ?_
   ·rw[Nat.zero_mul];exact Nat.zero_le _
   ·rw[Nat.zero_mul,Nat.zero_add,show((0:Nat):Int)=0 from rfl]
    refine wk_i ?_ ?_<;>simp only[zw,seval,reduceIte,reduceCtorEq]
   rename_i hs0 k
   refine zrs ?_
   have hck:=hc.out
   have hsc:(s+1)*c=s*c+c:=Nat.succ_mul s c
   have f4:=fun b=>e4.out s b (by omega)
   have f6:=e6.out s (by omega)
   have f7:=e7.out s (by omega)
   rw[hsc]at f6
   generalize hA:s*c=a at*
   have w3:IntKind.i64.wrap ((a:Int)+(k:Int))=((a+k:Nat):Int):=by rw[QR]<;>omega
   have w4:IntKind.i64.wrap (((a+c:Nat):Int)+(c:Int))=((a+c+c:Nat):Int):=by rw[QR]<;>omega
   rcases Nat.lt_or_ge N (a+c)with hgt2|hle2
   ·have d3:decide (a+c≤N)=false:=dcF (by omega)
    have d4:decide (((a+c:Nat):Int)≤(N:Int))=false:=dcF (by omega)
    have q6:=f6 (by omega)
    have hm1:c≤2000000:=by omega
    have hm2:20≤c:=by omega
    have hm3:N - c<N - k:=by omega
    replace hck:=hide hck
    replace hA:=hide hA
    replace hsc:=hide hsc
    rcases Nat.lt_or_ge (a+k) N with hm|hm
    ·have h3:=lt_t hm
     have hS:SymR fn N a (a+k) N (Ts s) (Ts (s+1)):=f4 N hm (by omega)
     rw[q6]at hS
     clear f4 f6 f7 q6
     generalize Ts s=Tk at*
     generalize hGc:G c=Gc at*
     replace hGc:=hide hGc
     repeat'(first|(simp -implicitDefEqProofs only[*,zr,seval,reduceIte,reduceCtorEq])|(apply zk<;>intro hc)|(refine zp ?_)|(refine zd ?_)|fail)
     refine VW (by omega) rfl hS rfl 100001 1 ((QJ _).map .f) [] [_,_,_,_] rfl rfl (QU _) rfl (by rw[QB];exact List.nodup_nil) (by rw[QB];simp [idsS]) (LeL.refl _) rfl (by repeat (first|exact Vx|exact QQ (by simp)|refine Qa rfl ?_)) ?_
     rw[Qe,QX,QB]
     unfold QJ
     repeat'(first|(simp -implicitDefEqProofs only[*,zr,seval,reduceIte,reduceCtorEq])|(apply zk<;>intro hc)|(refine zp ?_)|(refine zd ?_)|fail)
     refine⟨c,⟨hm2,hm1⟩,hm3,?_⟩
     rw[hGc.out]
     refine wk_i ?_ ?_<;>simp only[zw,seval,reduceIte,reduceCtorEq]
    ·have h3:=lt_f hm
     have q7:=f7 hm
     rw[q6]at q7
     rw[q7]
     clear f4 f6 f7 q6 q7
     repeat'(first|(simp -implicitDefEqProofs only[*,zr,seval,reduceIte,reduceCtorEq])|(apply zk<;>intro hc)|(refine zp ?_)|(refine zd ?_)|fail)
     refine⟨c,⟨hm2,hm1⟩,hm3,?_⟩
     refine wk_i ?_ ?_<;>simp only[zw,seval,reduceIte,reduceCtorEq]
   ·have d3:decide (a+c≤N)=true:=dcT (by omega)
    have d4:decide (((a+c:Nat):Int)≤(N:Int))=true:=dcT (by omega)
    have hS:SymR fn N a (a+k) (a+c) (Ts s) (Ts (s+1)):=f4 (a+c) (by omega) (by omega)
    have hm3:N+c - (a+c)<N+c - a:=by omega
    clear f4 f6 f7
    replace hck:=hide hck
    replace hA:=hide hA
    replace hsc:=hide hsc
    generalize Ts s=Tk at*
    generalize hTn:Ts (s+1)=Tn at*
    replace hTn:=hide hTn
    repeat'(first|(simp -implicitDefEqProofs only[*,zr,seval,reduceIte,reduceCtorEq])|(apply zk<;>intro hc)|(refine zp ?_)|(refine zd ?_)|fail)
    refine VW (by omega) rfl hS rfl 100001 1 ((QJ _).map .f) [] [_,_,_,_] rfl rfl (QU _) rfl (by rw[QB];exact List.nodup_nil) (by rw[QB];simp [idsS]) (LeL.refl _) rfl (by repeat (first|exact Vx|exact QQ (by simp)|refine Qa rfl ?_)) ?_
    rw[Qe,QX,QB]
    unfold QJ
    repeat'(first|(simp -implicitDefEqProofs only[*,zr,seval,reduceIte,reduceCtorEq])|(apply zk<;>intro hc)|(refine zp ?_)|(refine zd ?_)|fail)
    refine⟨s+1,by rw[hsc.out];exact hle2,by rw[hsc.out];exact hm3,?_⟩
    rw[hTn.out,hsc.out]
    refine wk_i ?_ ?_<;>simp only[zw,seval,reduceIte,reduceCtorEq]
  ·have h2:=lt_f hge
   have hE:=b8.out s hge
   rw[hE]
   replace hE:=hide hE
   repeat'(first|(simp -implicitDefEqProofs only[*,zr,seval,reduceIte,reduceCtorEq])|(apply zk<;>intro hc)|(refine zp ?_)|(refine zd ?_)|fail)
   exact⟨[],(rowF fNr Z).map .f,rfl,rfl,QU _,rfl,by rw[QB];exact List.nodup_nil,by rw[QB];simp [idsS]⟩
 ·have d1:decide (s*20+20≤N)=true:=dcT (by omega)
  have d2:decide (((s*20+20:Nat):Int)≤(N:Int))=true:=dcT (by omega)
  have hS:=b1.out s (s*20+20) hs (by omega)
  have w1:IntKind.i64.wrap (((s*20+20:Nat):Int)+20)=((s*20+20+20:Nat):Int):=by rw[QR]<;>omega
  generalize hF:F s=Fs at*
  generalize hF2:F (s+1)=Fs2 at*
  replace hF:=hide hF
  replace hF2:=hide hF2
  repeat'(first|(simp -implicitDefEqProofs only[*,zr,seval,reduceIte,reduceCtorEq])|(apply zk<;>intro hc)|(refine zp ?_)|(refine zd ?_)|fail)
  refine VW (by omega) rfl hS rfl 100001 1 ((QJ _).map .f) [] [_,_,_] rfl rfl (QU _) rfl (by rw[QB];exact List.nodup_nil) (by rw[QB];simp [idsS]) (LeL.refl _) rfl (by repeat (first|exact Vx|exact QQ (by simp)|refine Qa rfl ?_)) ?_
  rw[Qe,QX,QB]
  unfold QJ
  repeat'(first|(simp -implicitDefEqProofs only[*,zr,seval,reduceIte,reduceCtorEq])|(apply zk<;>intro hc)|(refine zp ?_)|(refine zd ?_)|fail)
  refine⟨s+1,by omega,by omega,?_⟩
  rw[hF2.out,show(s+1)*20=s*20+20 by omega]
  refine wk_i ?_ ?_<;>simp only[zw,seval,reduceIte,reduceCtorEq]
theorem QAa (M:List Nr) (lt:Nr→Nr→Bool) (cf:Nr→Nr→Int) (fn:FuncId) (hcf:∀ x y,FRet Tryz.prog fn [.agg ((fNr x).map .f),.agg ((fNr y).map .f)] [.c (.v (.int .i64 (cf x y)))]) (hn0:0<M.length) (hl:M.length≤1000000) (ho:OrdOn lt M) (hk:∀ (i j:Nat) x y,i<j→M[i]? = some y→M[j]? = some x→decide (cf x y<0)=lt x y) :
  Yt Tryz.prog 61 3 M.length ((QJ M).map .v) [] [.f (.fn (.func fn))] ((QJ (QW lt M)).map .v) []:=by
 have hS:=stable_f M lt cf fn hcf hn0 hl ho hk
 unfold Yt FRetH
 rw[QBH]
 generalize QW lt M=Z at*
 generalize M.length=N at*
 clear hcf ho hk
 unfold QJ
 refine FCall.of_ax Qq ?_
 dsimp only[jm,ji,jf,jl,jL,jn,je,jx,jT,jC,jB,jq,jt,ju,jA,km,kf,kl,kn,kx,Qf]
 refine zrs ?_
 repeat'(first|(simp -implicitDefEqProofs only[*,putS,zr,seval,reduceIte,reduceCtorEq])|(apply zk<;>intro hc)|(refine zp ?_)|(refine zd ?_)|fail)
 refine VW (by omega) rfl hS rfl 100001 1 ((QJ _).map .f) [] [_,_] rfl rfl (QU _) rfl (by rw[QB];exact List.nodup_nil) (by rw[QB];simp [idsS]) (LeL.refl _) rfl (by repeat (first|exact Vx|exact QQ (by simp)|refine Qa rfl ?_)) ?_
 rw[Qe,QX,QB]
 unfold QJ
 repeat'(first|(simp -implicitDefEqProofs only[*,zr,seval,reduceIte,reduceCtorEq])|(apply zk<;>intro hc)|(refine zp ?_)|(refine zd ?_)|fail)
 exact⟨[],(rowF fNr Z).map .f,rfl,rfl,QU _,rfl,by rw[QB];exact List.nodup_nil,by rw[QB];simp [idsS]⟩
end Go.Proofs.YtjfchihkhpinmaaGreatDoor
