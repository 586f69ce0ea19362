/-
  The reference's SameAnswers at answers of Follow. No statement of the seat is proved here; no conditions.
-/
import Derived.Test.YtfajjcmagngfiaaGreatDoorFlD
import Derived.Test.YtfajjcmagngfiaaGreatDoorCaQ
import Derived.Test.YtfajjcmagngfiaaGreatDoorRd7
import Derived.Test.YtfajjcmagngfiaaGreatDoorShK
namespace Go.Proofs.YtfajjcmagngfiaaGreatDoor
open Go.RowKit Go.Shelf
set_option linter.unusedVariables false
set_option linter.unusedSimpArgs false
set_option maxRecDepth 100000

theorem FCall.leA {P:Program}{f:FuncId}{args args':List AV}{H:Heap}{Q:AV→Heap→Prop}(h:FCall P f args' H Q) (hl:LeL args args'):FCall P f args H Q:=
 ⟨h.1,fun G Z w vs st hs hr=>by
  obtain⟨h1,h2⟩:=hl.rep hr
  exact h.2 G Z w vs st (by omega) h2⟩
def LsX (x:FV) (l:List ByteArray):Prop:=(x=.nil∧l = [])∨x=frStrs l
def OkX (x:FV):Prop:=∃ l,LsX x l∧(l.length:Int)≤9223372036854775807
theorem okX_nil:OkX .nil:=⟨[],.inl ⟨rfl,rfl⟩,by simp⟩
theorem okX_s {l:List ByteArray}(h:(l.length:Int)≤9223372036854775807):OkX (frStrs l):=⟨l,.inr rfl,h⟩
theorem leX {x:FV}{l:List ByteArray}(h:LsX x l):LeA (.f x) (.f (frStrs l)):=by
 rcases h with⟨rfl,rfl⟩|rfl
 ·exact LeA.nil _
 ·exact LeA.refl _
theorem sameX_f {x y:FV}{l m:List ByteArray}(hx:LsX x l) (hy:LsX y m) (hl:(l.length:Int)≤9223372036854775807):FRet Tryz.prog 22 [.f x,.f y] [.c (.v (.bool (decide (l=m))))]:=
 FCall.leA (sameList_f l m hl) (.cons (leX hx) (.cons (leX hy) (.refl _)))
theorem ans_ok {c:Cache}{e:Ev}(h:CRight c) (hl:(e.2.2.2.1.length:Int)≤9223372036854775807):OkX (ansOf c e).2.1∧OkX (ansOf c e).2.2:=by
 have hm:∀ ds:List ByteArray,(missingOf c.2.2.1 ds).length≤ds.length:=fun ds=>List.length_filter_le _ _
 have hN:frzC (.v .nil)=.nil:=rfl
 have hS:∀ l,frzC (rcS l)=frStrs l:=frz_s
 unfold ansOf
 dsimp only
 unfold doR doV
 split
 ·split
  ·exact⟨okX_nil,okX_nil⟩
  ·unfold actV
   split
   ·refine⟨okX_nil,?_⟩
    show OkX (frzC (.v _))
    rw[show ∀ x,frzC (.v x)=x from fun _=>rfl]
    unfold putV
    split
    ·split
     ·split<;>exact okX_nil
     ·exact okX_nil
    split
    ·exact okX_nil
    split
    ·exact okX_nil
    ·refine okX_s ?_
     have:=leav_len (at_:=e.2.1) (bl:=c.2.2.1) (by have:=h.blen;omega)
     unfold clrGone digsB
     rw[List.length_map,List.length_take];omega
   split
   ·exact⟨okX_nil,okX_nil⟩
   split
   ·refine⟨?_,okX_nil⟩
    show OkX (frzC (rcS _))
    rw[hS]
    exact okX_s (by have:=hm e.2.2.2.1;omega)
   split
   ·exact⟨okX_nil,okX_nil⟩
   split
   ·refine⟨?_,okX_nil⟩
    show OkX (frzC _)
    unfold storeV
    split
    ·exact okX_nil
    ·show OkX (frzC (rcS _))
     rw[hS]
     exact okX_s (by have:=hm e.2.2.2.1;omega)
   split
   ·refine⟨?_,okX_nil⟩
    show OkX (frzC _)
    unfold searchV
    split
    ·rename_i y hy
     split
     ·split
      ·exact okX_nil
      ·show OkX (frzC (rcS _))
       rw[hS]
       refine okX_s ?_
       have h1:=hm y.2.1
       have h2:=h.eok y (List.mem_of_getElem? hy)
       unfold entOk at h2
       simp only[Bool.and_eq_true,decide_eq_true_eq]at h2
       have h3:=ckDigs_len h2.2.1
       omega
     ·exact okX_nil
    ·exact okX_nil
   unfold dropV
   split
   ·split
    ·exact⟨okX_nil,by show OkX (frzC (rcS _));rw[hS];exact okX_s (by simp)⟩
    ·exact⟨okX_nil,okX_nil⟩
   ·exact⟨okX_nil,okX_nil⟩
 ·exact⟨okX_nil,okX_nil⟩
theorem fol_ok:∀ {l:List Ev}{c:Cache},ckCache c=0→(∀ e∈l,(e.2.2.2.1.length:Int)≤9223372036854775807)→∀ a∈(fol c l).2.1,OkX a.2.1∧OkX a.2.2
 | [],c,_,_,a,ha=>by cases ha
 | e::l,c,hc,hd,a,ha=>by
  by_cases he:fltOf c e=0
  ·rw[fol_yes he]at ha
   rcases List.mem_cons.1 ha with rfl|ha
   ·exact ans_ok (right_iff.1 hc) (hd e (by simp))
   ·exact fol_ok (doC_right hc) (fun x hx=>hd x (by simp [hx])) a ha
  ·rw[fol_no he]at ha;cases ha
def SameA (a b:Ans):Prop:=a.1=b.1∧∃ l m,LsX a.2.1 l∧LsX b.2.1 l∧LsX a.2.2 m∧LsX b.2.2 m∧(l.length:Int)≤9223372036854775807∧(m.length:Int)≤9223372036854775807
theorem sameA_of {a:Ans}(h:OkX a.2.1∧OkX a.2.2):SameA a a:=by
 obtain⟨⟨l,h1,h2⟩,m,h3,h4⟩:=h
 exact⟨rfl,l,m,h1,h1,h3,h3,h2,h4⟩
set_option maxHeartbeats 4000000 in
theorem SameAnswers_f (A B:List Ans) (hA:(A.length:Int)≤9223372036854775807) (hl:A.length=B.length) (hs:∀ (k:Nat) a b,A[k]? = some a→B[k]? = some b→SameA a b):FRet Tryz.prog 8 [.f (frAns A),.f (frAns B)] [.c (.v (.bool true))]:=by
 have d0:decide ((A.length:Int)=B.length)=true:=by rw[hl];simp
 have hS:=hide hs
 have hL:=hide hl
 clear hs hl
 refine FCall.of_ax low_ref7_SameAnswers ?_
 dsimp only[jm,ji,jf,jl,jL,jn,je,jx,jT,jC,jB,jq,jt,ju,jA,km,kf,kl,kn,kx,l_ref7_SameAnswers,frAns]
 refine zs ?_
 repeat'(first|(simp -implicitDefEqProofs only[*,List.length_map,zr,seval,reduceIte,reduceCtorEq])|(apply zk<;>intro hc)|(refine zp ?_)|(refine zd ?_)|fail)
 refine ax_loopU (S:=Nat) 56 [0,1] [] (fun s=>[(5,.f (.int .i64 s))]) (fun s=>[]) (fun s=>s≤A.length) (fun s=>A.length - s) (0) [] ?_ ?_ fun s hs=> ?_
 ·exact Nat.zero_le _
 ·refine wk_i ?_ ?_<;>simp only[zw,seval,reduceIte,reduceCtorEq]
 refine zs ?_
 rcases Nat.lt_or_ge s A.length with hlt|hge
 ·obtain⟨x,hx⟩:=get_some hlt
  obtain⟨y,hy⟩:=get_some (l:=B) (i:=s) (by have:=hL.out;omega)
  have h4:=inc64 hlt hA
  have h2:=lt_t hlt
  obtain⟨e1,l,m,k1,k2,k3,k4,k5,k6⟩:=hS.out s x y hx hy
  have c1:=sameX_f k1 k2 k5
  have c2:=sameX_f k3 k4 k6
  rw[show decide (l=l)=true by simp]at c1
  rw[show decide (m=m)=true by simp]at c2
  have hlt2:s<B.length:=by have:=hL.out;omega
  clear k1 k2 k3 k4
  obtain⟨x1,x2,x3⟩:=x
  obtain⟨y1,y2,y3⟩:=y
  dsimp only at e1 c1 c2
  subst e1
  replace c1:=hide c1
  replace c2:=hide c2
  have dx:(x1 != x1)=false:=by simp
  repeat'(first|(simp -implicitDefEqProofs only[*,List.getElem?_map,Option.map_some,List.length_map,fAns,zr,seval,reduceIte,reduceCtorEq])|(apply zk<;>intro hc)|(refine zp ?_)|(refine zd ?_)|(refine cP (c1.out) ?_)|(refine cD (c1.out) ?_)|(refine cF (c1.out) ?_)|(refine cP (c2.out) ?_)|(refine cD (c2.out) ?_)|(refine cF (c2.out) ?_)|fail)
  refine⟨s+1,hlt,by omega,?_⟩
  refine wk_i ?_ ?_<;>simp only[zw,seval,reduceIte,reduceCtorEq]
 ·obtain rfl:s=A.length:=by omega
  have h2:=lt_f hge
  repeat'(first|(simp -implicitDefEqProofs only[*,List.length_map,zr,seval,reduceIte,reduceCtorEq])|(apply zk<;>intro hc)|(refine zp ?_)|(refine zd ?_)|fail)
  exact ret_v
end Go.Proofs.YtfajjcmagngfiaaGreatDoor
namespace Go.Proofs.YtfajjcmagngfiaaGreatDoor
open Go.RowKit Go.Shelf
set_option linter.unusedVariables false
set_option linter.unusedSimpArgs false
set_option maxRecDepth 100000

theorem isDig_size {d:ByteArray}(h:isDig d=true):(d.size:Int)≤9223372036854775807:=by
 unfold isDig at h
 simp only[Bool.and_eq_true,beq_iff_eq]at h
 omega
theorem sb_right {c:Cache}(h:CRight c):SBound c:=by
 refine⟨sbound_of h,fun b hb=>isDig_size (by have:=h.bok b hb;unfold blobOk at this;rw[Bool.and_eq_true]at this;exact this.1),fun e he=> ?_⟩
 obtain⟨h1,h2,_⟩:=entOk_iff.1 (h.eok e he)
 refine⟨isDig_size h1,fun d hd=> ?_⟩
 unfold ckDigsM at h2
 split at h2
 ·cases h2
 ·obtain⟨i,hi⟩:=List.mem_iff_getElem?.1 hd
  have h3:=fe_zero h2 i (List.getElem?_eq_some_iff.1 hi).1
  rw[digErr_of hi]at h3
  by_cases h4:isDig d=true
  ·exact isDig_size h4
  ·rw[if_neg h4]at h3;cases h3
theorem sbound_0:SBound emptyC:=by simp [SBound,CBound,emptyC]
theorem args2q {G:Ghost}{Z:Nat→Prop}{w:World}{a b:AV}{u v:Value}(h1:RepA G Z w a u) (h2:RepA G Z w b v):∀ (j:Nat) (s:AV) (z:Value),[a,b][j]? = some s→(#[u,v]:Array Value)[j]? = some z→RepA G Z w s z:=by
 intro j s z hy hz
 rcases j with _|_|j
 ·obtain rfl:=Option.some.inj hy;simp at hz;subst hz;exact h1
 ·obtain rfl:=Option.some.inj hy;simp at hz;subst hz;exact h2
 ·simp at hy
abbrev rEv:Rep Ev:=rPair (rI .i64) (rPair (rI .i64) (rPair rStr (rPair (rSl 1 16 rStr) (rPair rStr (rI .i64)))))
theorem fz_ev:Fz rEv 6 fEv:=fz_pair fz_int len_i (fz_pair fz_int len_i (fz_pair fz_str len_s (fz_pair fz_strs len_sl (fz_pair fz_str len_s fz_int))))
theorem ev_b {w:World}{B:Nat}{e:Ev}{cs:List Value}(h:rEv w B e cs):EvB e:=by
 obtain⟨_,_,_,_,_,_,_,_,_,_,_,h1,_,_,_,h2,_,_,_,h3,_⟩:=h
 refine⟨h2.all.1,str_bound h1,str_bound h3,fun d hd=> ?_⟩
 obtain⟨vs,h4⟩:=h2.all.2 d hd
 exact str_bound h4
end Go.Proofs.YtfajjcmagngfiaaGreatDoor
