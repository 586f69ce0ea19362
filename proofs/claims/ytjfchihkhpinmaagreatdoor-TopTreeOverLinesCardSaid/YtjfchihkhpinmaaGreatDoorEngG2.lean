/-
  The abstract machine: copy, clear, maps with strings for keys. No statement of the seat is proved here; no conditions.
-/
import Derived.Test.YtjfchihkhpinmaaGreatDoorEngE
import Derived.Deep.Upon
import Derived.Laws.IdiomCopy
import Derived.MapKept
import Derived.Carry
import Derived.Laws.BytesString
import Derived.Lib.ConvBytes
namespace Go.Proofs.YtjfchihkhpinmaaGreatDoor
open Go.RowKit
set_option linter.unusedVariables false
set_option linter.unusedSimpArgs false

section
variable {P:Program}{G:QM}{H:Heap}{Z:Nat→Prop}{w:World}{ρ : Operand→AV}{ρc:Operand→Value}{t:Nat}{o:Oper}{v:AV}{H':Heap}

theorem ok_store (st:St P G H Z w) (hρ : ∀ x,RepA G Z w (ρ x) (ρc x)) (ty:TypeId) (n:Nat) (a x:Operand) (hn:sizeOf? P ty=some n) (hx:(eff (.store n a x) ρ t).exec H=some (v,H')) (ho:o.op=.store ty a x):OpOk P (execOp ρc o) G H Z w v H':=by
 have ha:=hρ a
 have hv:=hρ x
 simp only[eff]at hx
 split at hx
 ·rename_i id ver off xs e e2
  rw[e]at ha
  obtain⟨h1,h2,h3⟩:=hv.cellsN_ e2
  obtain⟨y,h4,rfl⟩:=YC hx
  split at h4
  case h_2=>cases h4
  rename_i cs hcs
  split at h4
  case isFalse=>cases h4
  rename_i hle
  simp only[Option.some.injEq,Prod.mk.injEq]at h4
  obtain⟨rfl,rfl⟩:=h4
  obtain⟨loc,hG,hob,hH⟩:=st.cells hcs
  obtain⟨g,ob,rfl,hp⟩:=ha.ptr_ hG
  have hob2:=hob
  obtain⟨arr,et,hh,hc⟩:=hob2
  have hl:(ρc x).cells.toList.length=xs.length:=by rw[Array.length_toList];omega
  obtain⟨s1,s2⟩:=st.write (off:=off) (vs:=(ρc x).cells.toList) (xs:=xs) hH hG hl (by omega) (fun j y hy=>by
   obtain⟨u,h5,h6,h7⟩:=h3 j y hy
   exact⟨u,by rw[Array.getElem?_toList];exact h5,h6,h7⟩)
  have hin:∀ j,j<(ρc x).cells.toList.length→∃ u,w.cell? ⟨g,ob+off+j,none⟩=some u:=fun j hj=>by
   obtain⟨u,hu,_⟩:=hc (off+j) _ (List.getElem?_eq_getElem (by omega))
   exact⟨u,by rw[cell_of_row w g _ arr et (0,0) hh,Nat.add_assoc];exact hu⟩
  have hrun:=run_storeCells_cells (P:=P) g (ob+off) (ρc x).cells.toList 0 w (fun j hj=>by
   obtain⟨u,hu⟩:=hin j hj
   rw[Nat.add_zero,hu];rfl) (fun j hj=>by simp [World.frozen?,hh]) (fun u hu=>by
   obtain⟨j,hj⟩:=List.getElem?_of_mem hu
   have hlt:=(List.getElem?_eq_some_iff.1 hj).1
   obtain⟨u',h5,h6,_⟩:=h3 j _ (List.getElem?_eq_getElem (by omega))
   rw[Array.getElem?_toList]at hj
   rw[hj]at h5
   obtain rfl:=Option.some.inj h5
   exact h6)
  simp only[Nat.add_zero]at hrun
  unfold sizeOf? at hn
  cases hi:P.info? ty with
  | none=>rw[hi]at hn;cases hn
  | some i=>
   rw[hi]at hn
   have hsz:(ρc x).cells.size=i.size:=by simp at hn;omega
   refine⟨G,Z,_,undef,.inr ⟨?_,rfl⟩,s1,s2,.any _⟩
   simp [execOp,ho,Instr.storeAt,hp,Instr.sureAddr,storeVar,sizeOf,typeInfo,hi,hsz,hrun]
 ·cases hx

theorem QBg (a:ByteArray):a.toList=a.data.toList:=by
 have key:∀ (n i:Nat) (r:List UInt8),a.size - i=n→i≤a.size→ByteArray.toList.loop a i r=r.reverse++a.data.toList.drop i:=by
  intro n
  induction n with
  | zero=>
   intro i r hn hi
   rw[ByteArray.toList.loop,if_neg (by omega),List.drop_of_length_le (by show a.data.toList.length≤i;rw[Array.length_toList];show a.size≤i;omega),List.append_nil]
  | succ n ih=>
   intro i r hn hi
   have hlt:i<a.data.toList.length:=by rw[Array.length_toList];show i<a.size;omega
   rw[ByteArray.toList.loop,if_pos (by omega),ih (i+1) _ (by omega) (by omega),List.reverse_cons,List.append_assoc,List.drop_eq_getElem_cons hlt]
   congr 1
   simp only[List.singleton_append]
   congr 1
   rw[Array.getElem_toList]
   show a.data[i]! = _
   exact getElem!_pos a.data i _
 have:=key _ 0 [] rfl (Nat.zero_le _)
 unfold ByteArray.toList
 rw[this];simp
theorem ba_eq (a b:ByteArray):(a.toList == b.toList)=decide (a=b):=by
 rw[QBg,QBg,Bool.eq_iff_iff,beq_iff_eq,decide_eq_true_iff]
 constructor
 ·intro h
  cases a;cases b
  congr 1
  exact Array.toList_inj.1 h
 ·rintro rfl;rfl

theorem ok_bin (st:St P G H Z w) (hρ : ∀ x,RepA G Z w (ρ x) (ρc x)) (op:BinOp) (ty ty2:TypeId) (x y:Operand) (hx:(eff (.bin op (Ot P ty) x y) ρ t).exec H=some (v,H')) (ho:o.op=.binOp op ty x y ty2):OpOk P (execOp ρc o) G H Z w v H':=by
 have ha:=hρ x
 have hb:=hρ y
 simp only[eff]at hx
 split at hx
 case h_2=>cases hx
 rename_i a b e1 e2
 rw[e1]at ha;rw[e2]at hb
 split at hx
 case h_2=>cases hx
 rename_i c hc
 obtain⟨rfl,rfl⟩:=QN hx
 have key:∀ u,(binOp op ty (ρc x) (ρc y)).run P w=.ok u w→(eqGuard op ty x y (ρc x) (ρc y)).run P w=.ok () w→(execOp ρc o).run P w=.ok (.value u) w:=by
  intro u h1 h2
  simp [execOp,ho,h1,h2]
 cases a<;>cases b<;>simp only[binF]at hc<;>try cases hc
 ·rename_i k m k' m'
  have e3:=ha.int_
  have e4:=hb.int_
  have hg:(eqGuard op ty x y (ρc x) (ρc y)).run P w=.ok () w:=by
   rw[e3,e4];cases op<;>simp [eqGuard]
  cases op<;>simp only at hc<;>(try cases hc)<;>split at hc<;>(try cases hc)<;>rename_i hk
  all_goals first
   |(refine OpOk.pure st (key _ ?_ hg) (.f (.int _ _));rw[e3,e4])
   |(refine OpOk.pure st (key _ ?_ hg) (.f (.bool _));rw[e3,e4])
  all_goals first
   | (subst hk;simp [binOp,Op.intArith,Op.intBits,Op.intCmp];done)
   | (obtain⟨rfl,hk⟩:=hk;simp [binOp,Op.intDiv,hk];done)
   | (simp [binOp,Op.shift,show ¬ m'<0 by omega];done)
   | (subst hk;simp [binOp,Op.intCmp];rw[Bool.eq_iff_iff];simp;done)
   | skip
 ·rename_i m m'
  have e3:=ha.bool_
  have e4:=hb.bool_
  have hu:∀ r,(if Ot P ty=true then some r else none)=some c→P.underlying ty=some .bool∧r=c:=by
   intro r h
   split at h
   ·rename_i h1
    refine⟨?_,Option.some.inj h⟩
    unfold Ot at h1
    split at h1
    ·assumption
    ·cases h1
   ·cases h
  have hg:(eqGuard op ty x y (ρc x) (ρc y)).run P w=.ok () w:=by
   rw[e3,e4];cases op<;>simp [eqGuard]
  cases op<;>simp only at hc<;>try cases hc
  all_goals
   obtain⟨h1,rfl⟩:=hu _ hc
   refine OpOk.pure st (key _ ?_ hg) (.f (.bool _))
   rw[e3,e4]
   simp [binOp,run_equal_bool (P:=P) (w:=w) ty m m' h1]
 ·rename_i m m'
  have e3:=ha.str_
  have e4:=hb.str_
  have hg:(eqGuard op ty x y (ρc x) (ρc y)).run P w=.ok () w:=by
   rw[e3,e4];cases op<;>simp [eqGuard]
  cases op<;>simp only at hc<;>try cases hc
  case add=>
   split at hc
   ·rename_i hle
    obtain rfl:=Option.some.inj hc
    refine OpOk.pure st (key _ ?_ hg) (.f (.str _))
    rw[e3,e4]
    have : ¬ ((m.size:Int)+(m'.size:Int) > IntKind.i64.max):=by simp [IntKind.max,IntKind.signed,IntKind.bits];omega
    simp [binOp,Op.stringOp,this]
    omega
   ·cases hc
  all_goals
   refine OpOk.pure st (key _ ?_ hg) (.f (.bool _))
   rw[e3,e4]
   simp [binOp,Op.stringOp,ba_eq,strLt]

theorem ok_un (st:St P G H Z w) (hρ : ∀ x,RepA G Z w (ρ x) (ρc x)) (op:UnOp) (ty:TypeId) (x:Operand) (hx:(eff (.un op x) ρ t).exec H=some (v,H')) (ho:o.op=.unOp op ty x):OpOk P (execOp ρc o) G H Z w v H':=by
 have ha:=hρ x
 simp only[eff]at hx
 split at hx
 case h_2=>cases hx
 rename_i a e1
 rw[e1]at ha
 split at hx
 case h_2=>cases hx
 rename_i c hc
 obtain⟨rfl,rfl⟩:=QN hx
 cases a<;>simp only[unF]at hc<;>try cases hc
 ·cases op<;>simp only at hc<;>try cases hc
  refine OpOk.pure st (u:= .int _ _) ?_ (.f (.int _ _))
  simp [execOp,ho,ha.int_,Op.unary,Op.intArith]
 ·cases op<;>simp only at hc<;>try cases hc
  refine OpOk.pure st (u:= .bool _) ?_ (.f (.bool _))
  simp [execOp,ho,ha.bool_,Op.unary]
 ·cases op<;>simp only at hc<;>try cases hc
  obtain⟨b,hb⟩:=ha.bit_
  refine OpOk.pure st (u:= .bool (!b)) ?_ (.f (.bit _))
  simp [execOp,ho,hb,Op.unary]

theorem Xb {op:BinOp}{ty:TypeId}{x y:Operand}{lo:LOp}(h:nilOf? P op ty x y=some lo):∃ neg,op=(if neg=true then .neq else .eql)∧
  ((lo=.isNil false neg x∧y=.const (.slice none 0 0)∧∃ e,P.underlying ty=some (.slice e))∨(lo=.isNil true neg x∧y=.const (.pointer none)∧∃ e,P.underlying ty=some (.pointer e))):=by
 have hs:(elemOf? P ty).isSome=true→∃ e,P.underlying ty=some (.slice e):=by
  intro h
  unfold elemOf? at h
  split at h
  ·exact⟨_,by assumption⟩
  ·cases h
 have hp:isPtr P ty=true→∃ e,P.underlying ty=some (.pointer e):=by
  intro h
  unfold isPtr at h
  split at h
  ·exact⟨_,by assumption⟩
  ·cases h
 unfold nilOf? at h
 split at h
 case h_5=>cases h
 all_goals
  split at h
  case isFalse=>cases h
  rename_i hc
  obtain rfl:=Option.some.inj h
 ·exact⟨false,rfl,.inl ⟨rfl,rfl,hs hc⟩⟩
 ·exact⟨true,rfl,.inl ⟨rfl,rfl,hs hc⟩⟩
 ·exact⟨false,rfl,.inr ⟨rfl,rfl,hp hc⟩⟩
 ·exact⟨true,rfl,.inr ⟨rfl,rfl,hp hc⟩⟩
theorem ok_isNil (st:St P G H Z w) (hρ : ∀ x,RepA G Z w (ρ x) (ρc x)) (hk:∀ u,ρc (.const u)=u) (op:BinOp) (ty ty2:TypeId) (x y:Operand){lo:LOp}(hn:nilOf? P op ty x y=some lo) (hx:(eff lo ρ t).exec H=some (v,H')) (ho:o.op=.binOp op ty x y ty2):OpOk P (execOp ρc o) G H Z w v H':=by
 obtain⟨neg,hop,hy⟩:=Xb hn
 have hr:=hρ x
 rcases hy with⟨rfl,hy,e0,he0⟩|⟨rfl,hy,e0,he0⟩
 ·have sli:∀ A n c,ρc x=.slice A n c→(execOp ρc o).run P w=.ok (.value (.bool (if neg=true then !A.isNone else A.isNone))) w:=by
   intro A n c hu
   have he1:∀ d,(Op.equalIn (d+1) ty (.slice A n c) (.slice none 0 0)).run P w=.ok A.isNone w:=fun d=>by cases A<;>simp [Op.equalIn,run_underlying he0]
   have he:(Op.equal ty (.slice A n c) (.slice none 0 0)).run P w=.ok A.isNone w:=by simp only[Op.equal,Op.maxDepth];exact he1 9999
   have hc : ρc y=.slice none 0 0:=by rw[hy,hk]
   subst hop
   cases neg<;>simp [execOp,ho,hu,hc,eqGuard,binOp,he]
  simp only[eff]at hx
  split at hx
  ·rename_i e
   obtain⟨rfl,rfl⟩:=QN hx
   rw[e]at hr
   obtain⟨A,hA⟩:=hr.nil_
   exact OpOk.pure st (sli _ _ _ hA) (.f (.bit _))
  ·rename_i sz l e
   obtain⟨rfl,rfl⟩:=QN hx
   rw[e]at hr
   obtain⟨A,c,hA,_,_,h4⟩:=hr.fr_
   refine OpOk.pure st (sli _ _ _ hA) ?_
   split
   ·exact .f (.bit _)
   ·rename_i hl
    obtain⟨b,o',rfl,_⟩:=h4 (by omega)
    cases neg<;>exact .f (.bool _)
  ·rename_i id ver sz off n e
   obtain⟨h1,rfl⟩:=YN hx
   split at h1
   case isFalse=>cases h1
   rename_i ha
   obtain rfl:=Option.some.inj h1
   rw[e]at hr
   obtain⟨loc,hG⟩:=st.alive ha
   rcases hr.sl_ hG with⟨rfl,A,hA⟩|⟨g,o',c,_,hA,_⟩
   ·exact OpOk.pure st (sli _ _ _ hA) (.f (.bit _))
   ·refine OpOk.pure st (sli _ _ _ hA) ?_
    split
    ·exact .f (.bit _)
    ·cases neg<;>exact .f (.bool _)
  ·cases hx
 ·have poi:∀ A,ρc x=.pointer (some A)→(execOp ρc o).run P w=.ok (.value (.bool neg)) w:=by
   intro A hu
   have he1:∀ d,(Op.equalIn (d+1) ty (.pointer (some A)) (.pointer none)).run P w=.ok false w:=fun d=>by simp [Op.equalIn,run_underlying he0]
   have he:(Op.equal ty (.pointer (some A)) (.pointer none)).run P w=.ok false w:=by simp only[Op.equal,Op.maxDepth];exact he1 9999
   have hc : ρc y=.pointer none:=by rw[hy,hk]
   subst hop
   cases neg<;>simp [execOp,ho,hu,hc,eqGuard,binOp,he]
  simp only[eff]at hx
  split at hx
  ·rename_i cs e
   obtain⟨rfl,rfl⟩:=QN hx
   rw[e]at hr
   obtain⟨b,o',us,hp,_⟩:=hr.fp_
   exact OpOk.pure st (poi _ hp) (.f (.bool _))
  ·rename_i id ver off e
   obtain⟨h1,rfl⟩:=YN hx
   split at h1
   case isFalse=>cases h1
   rename_i ha
   obtain rfl:=Option.some.inj h1
   rw[e]at hr
   obtain⟨loc,hG⟩:=st.alive ha
   obtain⟨g,o',_,h2⟩:=hr.ptr_ hG
   exact OpOk.pure st (poi _ h2) (.f (.bool _))
  ·rename_i e
   obtain⟨rfl,rfl⟩:=QN hx
   rw[e]at hr
   have hu : ρc x=.pointer none:=hr.lit_
   have he1:∀ d,(Op.equalIn (d+1) ty (.pointer none) (.pointer none)).run P w=.ok true w:=fun d=>by simp [Op.equalIn,run_underlying he0]
   have he:(Op.equal ty (.pointer none) (.pointer none)).run P w=.ok true w:=by simp only[Op.equal,Op.maxDepth];exact he1 9999
   have hc : ρc y=.pointer none:=by rw[hy,hk]
   subst hop
   have hrun:(execOp ρc o).run P w=.ok (.value (.bool (!neg))) w:=by cases neg<;>simp [execOp,ho,hu,hc,eqGuard,binOp,he]
   exact OpOk.pure st hrun (.f (.bool _))
  ·cases hx

theorem YW {op:BinOp}{ty:TypeId}{x y:Operand}{lo:LOp}(h:eqOf? P op ty x y=some lo):∃ (fs:Array Field) (ks:List Nat) (neg:Bool),lo=.eqS ks neg x y∧op=(if neg=true then .neq else .eql)∧P.underlying ty=some (.struct fs)∧P.stoodInHeld ty=false∧P.eqGuardType P.depth ty=false∧kindsOf? P fs.toList 0=some ks:=by
 unfold eqOf? at h
 split at h
 case h_2=>cases h
 rename_i fs hu
 split at h
 case isFalse=>cases h
 rename_i hc
 split at h
 case h_2=>cases h
 rename_i ks hks
 split at h
 ·obtain rfl:=Option.some.inj h
  exact⟨fs,ks,false,rfl,rfl,hu,hc.1,hc.2,hks⟩
 ·obtain rfl:=Option.some.inj h
  exact⟨fs,ks,true,rfl,rfl,hu,hc.1,hc.2,hks⟩
 ·cases h
theorem QAd {e:TypeId}{k:Nat}(he:kindOf? P e=some k){xs:Array Value}{off:Nat}{v:Value}(hx:xs[off]? = some v):(part e xs off).run P w=.ok v w:=by
 unfold kindOf? at he
 split at he
 case h_4=>cases he
 all_goals
  rename_i hu
  have hx':(xs[off]?).isSome:=by rw[hx];rfl
  simp [part,isAgg,run_underlying hu,hx]
theorem eqV_ok {k:Nat}{x y:FV}{b:Bool}{e:TypeId}{u v:Value}(d:Nat) (hk:kindOf? P e=some k) (h:eqV k x y=some b) (hx:RepA G Z w (.f x) u) (hy:RepA G Z w (.f y) v):(Op.equalIn (d+1) e u v).run P w=.ok b w:=by
 unfold kindOf? at hk
 split at hk
 case h_4=>cases hk
 all_goals
  rename_i hu
  obtain rfl:=Option.some.inj hk
 ·cases x<;>cases y<;>simp only[eqV]at h<;>try cases h
  split at h
  case isFalse=>cases h
  rename_i hkk
  subst hkk
  obtain rfl:=Option.some.inj h
  rw[hx.int_,hy.int_,run_equalIn_int w d e _ _ _ _ hu]
  rfl
 ·cases x<;>cases y<;>simp only[eqV]at h<;>try cases h
  rw[hx.bool_,hy.bool_,run_equalIn_bool' w d e _ _ hu]
 ·cases x<;>cases y<;>simp only[eqV]at h<;>try cases h
  rw[hx.str_,hy.str_,run_equalIn_string w d e _ _ hu,ba_eq]
theorem eqL_ok (d:Nat) (us vs:Array Value):∀ (fs:List Field) (k:Nat) (ks:List Nat) (xs ys:List AV) (b:Bool),kindsOf? P fs k=some ks→eqL ks xs ys=some b→
  (∀ (j:Nat) (a:AV),xs[j]? = some a→∃ u,us[k+j]? = some u∧RepA G Z w a u)→(∀ (j:Nat) (a:AV),ys[j]? = some a→∃ u,vs[k+j]? = some u∧RepA G Z w a u)→(Op.eqFields (d+1) us vs fs).run P w=.ok b w
 | [],k,ks,xs,ys,b,hk,h,hx,hy=>by
  simp only[kindsOf?,Option.some.injEq]at hk
  subst hk
  cases xs<;>cases ys<;>simp only[eqL]at h<;>try cases h
  simp [Op.eqFields]
 | f::fs,k,ks,xs,ys,b,hk,h,hx,hy=>by
  simp only[kindsOf?]at hk
  split at hk
  case isFalse=>cases hk
  rename_i hc
  split at hk
  case h_2=>cases hk
  rename_i a l ha hl
  obtain rfl:=Option.some.inj hk
  rcases xs with _|⟨x,xs⟩<;>rcases ys with _|⟨y,ys⟩<;>try (first|(simp only[eqL]at h;done)|(simp only[eqL]at h;cases h;done)|(cases x<;>simp [eqL]at h;done))
  cases x<;>try (first|(simp [eqL]at h;done))
  cases y<;>try (first|(simp [eqL]at h;done))
  rename_i x y
  simp only[eqL]at h
  split at h
  case h_2=>cases h
  rename_i b1 b2 e1 e2
  obtain rfl:=Option.some.inj h
  obtain⟨u,hu,hru⟩:=hx 0 _ rfl
  obtain⟨v,hv,hrv⟩:=hy 0 _ rfl
  rw[Nat.add_zero]at hu hv
  have ih:=eqL_ok d us vs fs (k+1) l xs ys b2 hl e2 (fun j a hj=>by
   obtain⟨u,h1,h2⟩:=hx (j+1) a (by simpa using hj)
   exact⟨u,by rw[show k+1+j=k+(j+1) by omega];exact h1,h2⟩) (fun j a hj=>by
   obtain⟨u,h1,h2⟩:=hy (j+1) a (by simpa using hj)
   exact⟨u,by rw[show k+1+j=k+(j+1) by omega];exact h1,h2⟩)
  have he:=eqV_ok (P:=P) d ha e1 hru hrv
  simp only[Op.eqFields,ne_eq,hc.1,not_false_eq_true,if_true,Sem.run_bind,hc.2,QAd ha hu,QAd ha hv,Result.andThen_ok,he]
  cases b1
  ·simp
  ·simpa using ih
theorem ok_eqS (st:St P G H Z w) (hρ : ∀ x,RepA G Z w (ρ x) (ρc x)) (op:BinOp) (ty ty2:TypeId) (x y:Operand){lo:LOp}(hn:eqOf? P op ty x y=some lo) (hx:(eff lo ρ t).exec H=some (v,H')) (ho:o.op=.binOp op ty x y ty2):OpOk P (execOp ρc o) G H Z w v H':=by
 obtain⟨fs,ks,neg,rfl,hop,hu,hsi,hg,hks⟩:=YW hn
 have h1:=hρ x
 have h2:=hρ y
 simp only[eff]at hx
 split at hx
 case h_2=>cases hx
 rename_i xs ys e1 e2
 rw[e1]at h1;rw[e2]at h2
 split at hx
 case h_2=>cases hx
 rename_i b hb
 obtain⟨rfl,rfl⟩:=QN hx
 obtain⟨us,hus,hs1,_,hr1⟩:=h1.agg_
 obtain⟨vs,hvs,hs2,_,hr2⟩:=h2.agg_
 have at_:∀ {l:List AV}{us:Array Value},us.size=l.length→(∀ (j:Nat) (a:AV) (u:Value),l[j]? = some a→us[j]? = some u→RepA G Z w a u)→∀ (j:Nat) (a:AV),l[j]? = some a→∃ u,us[0+j]? = some u∧RepA G Z w a u:=by
  intro l us hs hr j a ha
  have hj:=(List.getElem?_eq_some_iff.1 ha).1
  have hj':us[j]? = some (us[j]'(by omega)):=Array.getElem?_eq_getElem (by omega)
  exact⟨_,by rw[Nat.zero_add];exact hj',hr j a _ ha hj'⟩
 have hfo:P.fieldsOf ty=fs:=by simp [Program.fieldsOf,hu]
 have he:(Op.equalIn 10000 ty (.agg us) (.agg vs)).run P w=.ok b w:=by
  rw[run_equalIn_agg w 9999 ty us vs (by rw[hfo];exact hu) hsi,hfo]
  exact eqL_ok 9998 us vs fs.toList 0 ks xs ys b hks hb (at_ hs1 hr1) (at_ hs2 hr2)
 have hgd:=run_eqGuard_agg (P:=P) w op ty x y us vs hg
 refine OpOk.pure st (u:= .bool (b != neg)) ?_ (.f (.bool _))
 subst hop
 cases neg
 ·simp only[Bool.false_eq_true,if_false]at hgd ⊢ ho
  have h3:=run_eql_struct (P:=P) w ty us vs
  rw[he]at h3
  simp [execOp,ho,hus,hvs,hgd,h3]
 ·simp only[if_true]at hgd ⊢ ho
  have h3:=run_neq_struct (P:=P) w ty us vs
  rw[he]at h3
  simp [execOp,ho,hus,hvs,hgd,h3]

theorem QDY (st:St P G H Z w) (hρ : ∀ x,RepA G Z w (ρ x) (ρc x)) (src dst:TypeId) (k k2:IntKind) (x:Operand) (hd:P.underlying dst=some (.int k)) (hs:P.underlying src=some (.int k2)) (hx:(eff (.convInt k x) ρ t).exec H=some (v,H')) (ho:o.op=.convert src dst x):OpOk P (execOp ρc o) G H Z w v H':=by
 have ha:=hρ x
 simp only[eff]at hx
 split at hx
 case h_2=>cases hx
 rename_i k' n e1
 rw[e1]at ha
 obtain⟨rfl,rfl⟩:=QN hx
 refine OpOk.pure st (u:= .int _ _) ?_ (.f (.int _ _))
 simp [execOp,ho,ha.int_,convert,run_underlying hd,run_underlying hs,Conv.intToInt]
theorem QDX (st:St P G H Z w) (hρ : ∀ x,RepA G Z w (ρ x) (ρc x)) (src dst:TypeId) (x:Operand) (hd:P.underlying dst=some .string) (hs:P.underlying src=some .string) (hx:(eff (.convStr x) ρ t).exec H=some (v,H')) (ho:o.op=.convert src dst x):OpOk P (execOp ρc o) G H Z w v H':=by
 have ha:=hρ x
 simp only[eff]at hx
 split at hx
 case h_2=>cases hx
 rename_i s e1
 rw[e1]at ha
 obtain⟨rfl,rfl⟩:=QN hx
 refine OpOk.pure st (u:= .string _) ?_ (.f (.str _))
 simp [execOp,ho,ha.str_,convert,run_underlying hd,run_underlying hs]

theorem ok_clo (st:St P G H Z w) (hρ : ∀ x,RepA G Z w (ρ x) (ρc x)) (f:Fn) (first caps:Array Operand) (hf:first.isEmpty=true) (hx:(eff (.clo f caps.toList) ρ t).exec H=some (v,H')) (ho:o.op=.makeFunc f first caps):OpOk P (execOp ρc o) G H Z w v H':=by
 have hfe:first = #[]:=by simpa using hf
 subst hfe
 have hrun:(execOp ρc o).run P w=.ok (.value (.func f #[] (caps.map ρc))) w:=by simp [execOp,ho,Instr.makeFunc]
 simp only[eff]at hx
 split at hx
 ·rename_i e
  obtain⟨rfl,rfl⟩:=QN hx
  have:caps = #[]:=by simpa using e
  subst this
  exact OpOk.pure st (by simpa using hrun) (.f (.fn f))
 ·obtain⟨rfl,rfl⟩:=QN hx
  refine OpOk.pure st hrun (.clo f _ _ (by simp) fun j a u ha hu=> ?_)
  rw[List.getElem?_map]at ha
  rw[Array.getElem?_map]at hu
  obtain⟨y,hy,rfl⟩:=Option.map_eq_some_iff.1 ha
  rw[Array.getElem?_toList]at hy
  rw[hy]at hu
  obtain rfl:=Option.some.inj hu
  exact hρ y

theorem QAv (st:St P G H Z w) (hρ : ∀ x,RepA G Z w (ρ x) (ρc x)) (s:TypeId) (f:Field) (i n:Nat) (x:Operand) (hf:fieldOf? P s i=some f) (hn:sizeOf? P f.type=some n) (h0:n≠0) (hx:(eff (.fieldAddr f.offset x) ρ t).exec H=some (v,H')) (ho:o.op=.fieldAddr s x i):OpOk P (execOp ρc o) G H Z w v H':=by
 have ha:=hρ x
 have key:∀ b o',ρc x=.pointer (some ⟨b,o',none⟩)→(execOp ρc o).run P w=.ok (.value (.pointer (some ⟨b,o'+f.offset,none⟩))) w:=by
  intro b o' hp
  unfold fieldOf? at hf
  split at hf
  case h_2=>cases hf
  rename_i fs hu
  unfold sizeOf? at hn
  cases hi:P.info? f.type with
  | none=>rw[hi]at hn;cases hn
  | some inf=>
   rw[hi]at hn
   have hsz:inf.size≠0:=by simp at hn;omega
   simp [execOp,ho,Instr.fieldAt,run_underlying hu,hf,hp,Instr.sureAddr,fieldPlace,sizeOf,typeInfo,hi,hsz,Addr.add_mid]
 simp only[eff]at hx
 split at hx
 ·rename_i cs e
  split at hx
  case isFalse=>cases hx
  rename_i hle
  obtain⟨rfl,rfl⟩:=QN hx
  rw[e]at ha
  obtain⟨b,o',us,hp,hz,hc,hc2⟩:=ha.fp_
  refine OpOk.pure st (key b o' hp) (.f (.fp _ b _ (fun j=>us (f.offset+j)) hz (fun j hj=> ?_) fun j a hj=> ?_))
  ·rw[List.length_drop]at hj
   rw[Nat.add_assoc];exact hc _ (by omega)
  ·rw[List.getElem?_drop]at hj
   exact hc2 _ a hj
 ·rename_i id ver off e
  rw[e]at ha
  obtain⟨h1,rfl⟩:=YN hx
  split at h1
  case isFalse=>cases h1
  rename_i hal
  obtain rfl:=Option.some.inj h1
  obtain⟨loc,hG⟩:=st.alive hal
  obtain⟨g,o',rfl,hp⟩:=ha.ptr_ hG
  refine OpOk.pure st (key _ _ hp) ?_
  rw[Nat.add_assoc]
  exact .ptrLive _ _ _ g o' hG
 ·cases hx

theorem ok_field (st:St P G H Z w) (hρ : ∀ x,RepA G Z w (ρ x) (ρc x)) (s:TypeId) (f:Field) (i:Nat) (n:Option Nat) (x:Operand) (hf:fieldOf? P s i=some f) (hn:QAf P f.type=some n) (hx:(eff (.field f.offset n x) ρ t).exec H=some (v,H')) (ho:o.op=.field s x i):OpOk P (execOp ρc o) G H Z w v H':=by
 have ha:=hρ x
 unfold fieldOf? at hf
 split at hf
 case h_2=>cases hf
 rename_i fs hu
 unfold QAf at hn
 split at hn
 case h_2=>cases hn
 rename_i d inf hd hi
 have hagg:(isAgg f.type).run P w=.ok d.isRow w:=by
  cases d<;>simp [isAgg,run_underlying hd,TypeDesc.isRow]
 simp only[eff]at hx
 split at hx
 case h_2=>cases hx
 rename_i cs e
 rw[e]at ha
 obtain⟨us,hv,h1,h2,h3⟩:=ha.agg_
 split at hx
 ·split at hx
  case h_2=>cases hx
  rename_i a hj
  obtain⟨rfl,rfl⟩:=QN hx
  have hr:d.isRow=false:=by revert hn;cases d.isRow<;>simp
  have hlt:f.offset<us.size:=by have:=(List.getElem?_eq_some_iff.1 hj).1;omega
  have hu':us[f.offset]? = some us[f.offset]:=Array.getElem?_eq_getElem hlt
  refine OpOk.pure st (u:=us[f.offset]) ?_ (h3 _ _ _ hj hu')
  rw[hr]at hagg
  simp [execOp,ho,Instr.field,run_underlying hu,hf,hv,asAgg,part,hagg,hu']
 ·rename_i _ n
  split at hx
  case isFalse=>cases hx
  rename_i hle
  obtain⟨rfl,rfl⟩:=QN hx
  have hr:d.isRow=true∧inf.size=n:=by revert hn;cases d.isRow<;>simp
  rw[hr.1]at hagg
  refine OpOk.pure st (u:= .agg (us.extract f.offset (f.offset+n))) ?_ (.agg _ _ (by simp;omega) (fun j u hu'=> ?_) fun j a u hj hu'=> ?_)
  ·simp [execOp,ho,Instr.field,run_underlying hu,hf,hv,asAgg,part,hagg,sizeOf,typeInfo,hi,hr.2]
  ·exact h2 (f.offset+j) u (by
    rw[Array.getElem?_extract]at hu'
    split at hu'
    ·exact hu'
    ·cases hu')
  ·have hlt:j<n:=by
    have:=(List.getElem?_eq_some_iff.1 hj).1
    simp at this;omega
   rw[List.getElem?_take_of_lt hlt,List.getElem?_drop]at hj
   refine h3 (f.offset+j) a u hj ?_
   rw[Array.getElem?_extract]at hu'
   split at hu'
   ·exact hu'
   ·cases hu'

theorem QAu (st:St P G H Z w) (hρ : ∀ x,RepA G Z w (ρ x) (ρc x)) (ty e:TypeId) (sz:Nat) (x ix:Operand) (he:P.underlying ty=some (.slice e)) (hs:sizeOf? P e=some sz) (hx:(eff (.indexAddr sz x ix) ρ t).exec H=some (v,H')) (ho:o.op=.indexAddr ty x ix):OpOk P (execOp ρc o) G H Z w v H':=by
 have ha:=hρ x
 have hi:=hρ ix
 unfold sizeOf? at hs
 cases hinf:P.info? e with
 | none=>rw[hinf]at hs;cases hs
 | some inf=>
 rw[hinf]at hs
 have hsz:inf.size=sz:=by simpa using hs
 have key:∀ b o' n c k (i:Int),ρc x=.slice (some ⟨b,o',none⟩) n c→ρc ix=.int k i→0≤i→i<n→(execOp ρc o).run P w=.ok (.value (.pointer (some ⟨b,o'+i.toNat*sz,none⟩))) w:=by
  intro b o' n c k i hp hq h0 h1
  simp [execOp,ho,Instr.indexAt,hp,hq,asIntOf,run_underlying he,h0,h1,sizeOf,typeInfo,hinf,hsz,Addr.add_mid]
 simp only[eff]at hx
 split at hx
 ·rename_i sz' l i e1 e2
  rw[e1]at ha
  obtain⟨k,hq⟩:=hi.toI_ e2
  split at hx
  case isFalse=>cases hx
  rename_i hc
  obtain⟨rfl,h0⟩:=hc
  split at hx
  case h_2=>cases hx
  rename_i cs hl
  obtain⟨rfl,rfl⟩:=QN hx
  have hlt:=(List.getElem?_eq_some_iff.1 hl).1
  obtain⟨vx,hvx⟩:∃ vx,ρc x=vx:=⟨_,rfl⟩
  rw[hvx]at ha
  cases ha.f_ with
  | frNil=>simp at hl
  | fr _ _ b o' c us h1 h2 h3 hb hlen hcell hrep=>
   refine OpOk.pure st (key b o' _ c k i hvx hq h0 (by omega)) (.f (.fp _ b _ (us i.toNat) hb (fun j hj=> ?_) fun j a hj=>hrep i.toNat j cs a hl hj))
   exact hcell i.toNat j hlt (by rw[← hlen cs (List.mem_of_getElem? hl)];exact hj)
 ·rename_i id ver sz' off n i e1 e2
  rw[e1]at ha
  obtain⟨k,hq⟩:=hi.toI_ e2
  split at hx
  case isFalse=>cases hx
  rename_i hc
  obtain⟨rfl,h0,h1⟩:=hc
  obtain⟨h2,rfl⟩:=YN hx
  split at h2
  case isFalse=>cases h2
  rename_i hal
  obtain rfl:=Option.some.inj h2
  obtain⟨loc,hG⟩:=st.alive hal
  rcases ha.sl_ hG with⟨h3,_⟩|⟨g,o',c,rfl,hp,_⟩
  ·omega
  ·refine OpOk.pure st (key _ _ _ _ _ _ hp hq h0 h1) ?_
   rw[Nat.add_assoc,← Nat.add_mul]
   exact .ptrLive _ _ _ g o' hG
 ·cases hx

theorem ok_indexS (st:St P G H Z w) (hρ : ∀ x,RepA G Z w (ρ x) (ρc x)) (ty:TypeId) (x ix:Operand) (he:P.underlying ty=some .string) (hx:(eff (.indexS x ix) ρ t).exec H=some (v,H')) (ho:o.op=.index ty x ix):OpOk P (execOp ρc o) G H Z w v H':=by
 have ha:=hρ x
 have hi:=hρ ix
 simp only[eff]at hx
 split at hx
 case h_2=>cases hx
 rename_i s i e1 e2
 rw[e1]at ha
 obtain⟨k,hq⟩:=hi.toI_ e2
 split at hx
 case isFalse=>cases hx
 rename_i h0
 split at hx
 case h_2=>cases hx
 rename_i b hb
 obtain⟨rfl,rfl⟩:=QN hx
 have hb':s[i.toNat]? = some b:=by
  rw[Array.getElem?_toList]at hb
  obtain⟨h1,h2⟩:=Array.getElem?_eq_some_iff.1 hb
  have h1':i.toNat<s.size:=h1
  rw[getElem?_pos s i.toNat h1']
  exact congrArg some h2
 refine OpOk.pure st (u:= .int .u8 b.toNat) ?_ (.f (.int _ _))
 simp [execOp,ho,Instr.index,ha.str_,hq,asIntOf,run_underlying he,h0,hb']

theorem QDW (st:St P G H Z w) (hρ : ∀ x,RepA G Z w (ρ x) (ρc x)) (i:Nat) (x:Operand) (hx:(eff (.extract x i) ρ t).exec H=some (v,H')) (ho:o.op=.extract x i):OpOk P (execOp ρc o) G H Z w v H':=by
 have ha:=hρ x
 simp only[eff]at hx
 split at hx
 case h_2=>cases hx
 rename_i vs e
 rw[e]at ha
 split at hx
 case h_2=>cases hx
 rename_i a hj
 obtain⟨rfl,rfl⟩:=QN hx
 obtain⟨us,hv,h1,h3⟩:=ha.tup_
 have hlt:i<us.size:=by have:=(List.getElem?_eq_some_iff.1 hj).1;omega
 have hu':us[i]? = some us[i]:=Array.getElem?_eq_getElem hlt
 refine OpOk.pure st (u:=us[i]) ?_ (h3 _ _ _ hj hu')
 simp [execOp,ho,Instr.extract,hv,hu']

theorem ok_len (st:St P G H Z w) (hρ : ∀ x,RepA G Z w (ρ x) (ρc x)) (str:Bool) (x:Operand) (ty:TypeId) (hty:if str=true then P.underlying ty=some .string else ∃ e,P.underlying ty=some (.slice e)) (hx:(eff (.len str x) ρ t).exec H=some (v,H')) (c:Call) (ho:o.op=.call c) (hc:c.callee=.builtin .len) (hargs:c.args = #[x]) (hat:c.argTypes = #[ty]) :
  OpOk P (execOp ρc o) G H Z w v H':=by
 have ha:=hρ x
 have key:∀ n:Nat,((∃ s:ByteArray,ρc x=.string s∧s.size=n∧P.underlying ty=some .string)∨∃ A c',ρc x=.slice A n c'∧∃ e,P.underlying ty=some (.slice e))→(execOp ρc o).run P w=.ok (.value (.int .i64 n)) w:=by
  rintro n (⟨s,h1,rfl,h2⟩|⟨A,c',h1,e,h2⟩)
  ·simp [execOp,ho,resolve,hc,hargs,hat,invoke,builtin,Builtin.len_,run_underlying h2,h1,goInt]
  ·simp [execOp,ho,resolve,hc,hargs,hat,invoke,builtin,Builtin.len_,run_underlying h2,h1,goInt]
 simp only[eff]at hx
 split at hx
 ·rename_i s e
  split at hx
  case isFalse=>cases hx
  rename_i hs
  rw[if_pos hs]at hty
  obtain⟨rfl,rfl⟩:=QN hx
  rw[e]at ha
  exact OpOk.pure st (key s.size (.inl ⟨s,ha.str_,rfl,hty⟩)) (.f (.int _ _))
 ·rename_i e
  split at hx
  case isFalse=>cases hx
  rename_i hs
  rw[if_neg (by simp [hs])]at hty
  obtain⟨rfl,rfl⟩:=QN hx
  rw[e]at ha
  obtain⟨A,hv⟩:=ha.nil_
  exact OpOk.pure st (key 0 (.inr ⟨A,0,hv,hty⟩)) (.f (.int _ _))
 ·rename_i sz l e
  split at hx
  case isFalse=>cases hx
  rename_i hs
  rw[if_neg (by simp [hs])]at hty
  obtain⟨rfl,rfl⟩:=QN hx
  rw[e]at ha
  obtain⟨A,c',hv,_⟩:=ha.fr_
  exact OpOk.pure st (key l.length (.inr ⟨A,c',hv,hty⟩)) (.f (.int _ _))
 ·rename_i id ver sz off n e
  split at hx
  case isFalse=>cases hx
  rename_i hs
  rw[if_neg (by simp [hs])]at hty
  rw[e]at ha
  obtain⟨h1,rfl⟩:=YN hx
  split at h1
  case isFalse=>cases h1
  rename_i hal
  obtain rfl:=Option.some.inj h1
  obtain⟨loc,hG⟩:=st.alive hal
  rcases ha.sl_ hG with⟨h3,A,hp⟩|⟨g,o',c',rfl,hp,_⟩
  ·subst h3;exact OpOk.pure st (key 0 (.inr ⟨A,0,hp,hty⟩)) (.f (.int _ _))
  ·exact OpOk.pure st (key n (.inr ⟨_,_,hp,hty⟩)) (.f (.int _ _))
 ·cases hx

theorem run_max2 (k:IntKind) (x y:Int) (ts:Array TypeId) (ty:TypeId):Sem.run P (Builtin.max_ ts ty #[.int k x,.int k y]) w=.ok (.int k (max x y)) w:=by
 simp only[Builtin.max_,List.foldlM,Builtin.max2,Sem.run_pure,Sem.run_bind,Result.andThen_ok,pure_bind]
 congr 2
 simp only[Int.max_def];split<;>split<;>omega
end
theorem Za {R:Nat→Value→Prop} : ∀ n:Nat,(∀ i,i<n→∃ u,R i u)→∃ us:List Value,us.length=n∧∀ i,i<n→∃ u,us[i]? = some u∧R i u
 | 0,_=>⟨[],rfl,fun i h=>absurd h (by omega)⟩
 | n+1,h=>by
  obtain⟨us,h1,h2⟩:=Za n (fun i hi=>h i (by omega))
  obtain⟨u,hu⟩:=h n (by omega)
  refine⟨us++ [u],by simp [h1],fun i hi=> ?_⟩
  rcases Nat.lt_or_ge i n with h'|h'
  ·obtain⟨u',h6,h7⟩:=h2 i h'
   exact⟨u',by rw[List.getElem?_append_left (by omega)];exact h6,h7⟩
  ·obtain rfl:i=n:=by omega
   exact⟨u,by rw[List.getElem?_append_right (by omega)];simp [h1],hu⟩

def Wnd (R:AV→Value→Prop) (w:World) (b o:Nat) (cs:List AV):Prop:=∀ i a,cs[i]? = some a→∃ u,w.cell? ⟨b,o+i,none⟩=some u∧u.oneCell'=true∧R a u
theorem Wnd.list {R:AV→Value→Prop}{w:World}{b o:Nat}{cs:List AV}(h:Wnd R w b o cs) :
  ∃ us:List Value,us.length=cs.length∧w.rangeAt b o us∧(∀ u∈us,u.oneCell'=true)∧∀ (i:Nat) (a:AV),cs[i]? = some a→∃ u,us[i]? = some u∧u.oneCell'=true∧R a u:=by
 obtain⟨us,h1,h2⟩:=Za (R:=fun i u=>w.cell? ⟨b,o+i,none⟩=some u∧u.oneCell'=true∧∀ a,cs[i]? = some a→R a u) cs.length (fun i hi=>by
  obtain⟨u,h3,h4,h5⟩:=h i _ (List.getElem?_eq_getElem hi)
  exact⟨u,h3,h4,fun a ha=>by rw[List.getElem?_eq_getElem hi]at ha;obtain rfl:=Option.some.inj ha;exact h5⟩)
 refine⟨us,h1,fun j u hu=> ?_,fun u hu=> ?_,fun i a ha=> ?_⟩
 ·have hj:=(List.getElem?_eq_some_iff.1 hu).1
  obtain⟨u',h3,h4,_⟩:=h2 j (by omega)
  rw[hu]at h3;obtain rfl:=Option.some.inj h3
  exact h4
 ·obtain⟨j,hj⟩:=List.getElem?_of_mem hu
  have hlt:=(List.getElem?_eq_some_iff.1 hj).1
  obtain⟨u',h3,_,h4,_⟩:=h2 j (by omega)
  rw[hj]at h3;obtain rfl:=Option.some.inj h3
  exact h4
 ·obtain⟨u,h3,_,h4,h5⟩:=h2 i (List.getElem?_eq_some_iff.1 ha).1
  exact⟨u,h3,h4,h5 a ha⟩
theorem Wnd.of_row {R:AV→Value→Prop}{w:World}{g o:Nat}{arr:Array Value}{e:TypeId}{fz:Nat × Nat}{cs:List AV}(hh:w.heap[g]? = some (.cells arr e fz)) (hc:CellsR R arr o cs):Wnd R w g o cs:=fun i a ha=>by
 obtain⟨u,h2,h3,h4⟩:=hc i a ha
 exact⟨u,by rw[cell_of_row w g _ arr e fz hh];exact h2,h3,h4⟩
theorem Wnd.drop {R:AV→Value→Prop}{w:World}{b o:Nat}{cs:List AV}(h:Wnd R w b o cs) (k:Nat):Wnd R w b (o+k) (cs.drop k):=fun i a ha=>by
 rw[List.getElem?_drop]at ha
 rw[Nat.add_assoc];exact h (k+i) a ha
theorem Wnd.take {R:AV→Value→Prop}{w:World}{b o:Nat}{cs:List AV}(h:Wnd R w b o cs) (k:Nat):Wnd R w b o (cs.take k):=fun i a ha=>by
 rw[List.getElem?_take]at ha
 split at ha
 ·exact h i a ha
 ·cases ha

theorem YB {α : Type}{sz:Nat} : ∀ (l:List (List α)),(∀ x∈l,x.length=sz)→∀ (i:Nat) (a : α),l.flatten[i]? = some a→∃ k j x,l[k]? = some x∧x[j]? = some a∧i=k*sz+j∧j<sz
 | [],_,i,a,h=>by simp at h
 | y::l,hl,i,a,h=>by
  have hy:=hl y (by simp)
  rw[List.flatten_cons]at h
  by_cases hi:i<sz
  ·rw[List.getElem?_append_left (by omega)]at h
   exact⟨0,i,y,rfl,h,by omega,hi⟩
  ·rw[List.getElem?_append_right (by omega),hy]at h
   obtain⟨k,j,x,h1,h2,h3,h4⟩:=YB l (fun x hx=>hl x (by simp [hx])) _ a h
   exact⟨k+1,j,x,by simpa using h1,h2,by rw[Nat.succ_mul];omega,h4⟩
theorem Qn {α : Type}{sz:Nat} : ∀ (l:List (List α)),(∀ x∈l,x.length=sz)→l.flatten.length=l.length*sz
 | [],_=>by simp
 | y::l,hl=>by
  rw[List.flatten_cons,List.length_append,hl y (by simp),Qn l (fun x hx=>hl x (by simp [hx])),List.length_cons,Nat.succ_mul];omega

section
variable {P:Program}{G:QM}{H:Heap}{Z:Nat→Prop}{w:World}{ρ : Operand→AV}{ρc:Operand→Value}{t:Nat}{o:Oper}{v:AV}{H':Heap}

theorem QCx {sz:Nat}{l:List (List FV)}{v:Value}(h:RepA G Z w (.f (.fr sz l)) v):∃ A c,v=.slice A l.length c∧l.length≤c∧c≤maxLen∧(∀ x∈l,x.length=sz)∧(0<l.length→∃ b o,A=some ⟨b,o,none⟩∧Z b∧Wnd (RepA G Z w) w b o (l.flatten.map .f)):=by
 cases h.f_ with
 | frNil _ A c hc=>exact⟨A,c,rfl,by simp,hc,by simp,fun h=>absurd h (by simp)⟩
 | fr _ _ b o c us h0 h1 h2 hb hlen hcell hrep=>
  refine⟨_,c,rfl,h1,h2,hlen,fun _=>⟨b,o,rfl,hb,fun i a ha=> ?_⟩⟩
  rw[List.getElem?_map]at ha
  obtain⟨x,hx,rfl⟩:=Option.map_eq_some_iff.1 ha
  obtain⟨k,j,y,h3,h4,rfl,h5⟩:=YB l hlen i x hx
  have hk:=(List.getElem?_eq_some_iff.1 h3).1
  obtain⟨h6,h7⟩:=hcell k j hk h5
  exact⟨us k j,by rw[← Nat.add_assoc];exact h6,h7,.f (hrep k j y x h3 h4)⟩

def SrcA (P:Program) (G:QM) (Z:Nat→Prop) (w:World) (sz:Nat) (tx:TypeId) (xv:Value) (m:Nat) (news:List AV):Prop:=
 ∃ us:List Value,Src P sz tx xv m us w∧us.length=news.length∧∀ (i:Nat) (a:AV),news[i]? = some a→∃ u,us[i]? = some u∧u.oneCell'=true∧RepA G Z w a u
theorem SrcA.len {sz:Nat}{tx:TypeId}{xv:Value}{m:Nat}{news:List AV}(h:SrcA P G Z w sz tx xv m news):news.length=m*sz:=by
 obtain⟨us,h1,h2,_⟩:=h
 rw[← h2];exact h1.newsLen
theorem Src.any0 {size:Nat}{tx e':TypeId}(hk:P.underlying tx=some (.slice e')) (A:Option Addr) (c:Nat):Src P size tx (.slice A 0 c) 0 [] w:=by
 cases A with
 | none=>exact Src.ofNil w hk c
 | some a=>exact Src.ofSlice w hk a 0 c [] (by simp) (fun j u h=>by simp at h) (fun u h=>by cases h)
theorem srcF_ok {str:Bool}{sz:Nat}{tx:TypeId}{a:AV}{xv:Value}{m:Nat}{news:List AV}(h:srcF str sz a=some (m,news)) (hr:RepA G Z w a xv)
  (hty:if str=true then P.underlying tx=some .string else ∃ e,P.underlying tx=some (.slice e)):SrcA P G Z w sz tx xv m news:=by
 unfold srcF at h
 split at h
 ·split at h
  case isFalse=>cases h
  rename_i hs
  rw[if_neg (by simp [hs])]at hty
  simp only[Option.some.injEq,Prod.mk.injEq]at h
  obtain⟨rfl,rfl⟩:=h
  obtain⟨A,rfl⟩:=hr.nil_
  obtain⟨e,he⟩:=hty
  exact⟨[],Src.any0 he A 0,rfl,fun i a h=>by simp at h⟩
 ·rename_i sz' l
  split at h
  case isFalse=>cases h
  rename_i hs
  obtain⟨hs0,rfl⟩:=hs
  rw[if_neg (by simp [hs0])]at hty
  simp only[Option.some.injEq,Prod.mk.injEq]at h
  obtain⟨rfl,rfl⟩:=h
  obtain⟨A,c,rfl,h1,h2,hlen,hw⟩:=QCx hr
  obtain⟨e,he⟩:=hty
  rcases Nat.eq_zero_or_pos l.length with h0|h0
  ·have:l = []:=List.eq_nil_of_length_eq_zero h0
   subst this
   exact⟨[],Src.any0 he A c,rfl,fun i a h=>by simp at h⟩
  ·obtain⟨b,o',rfl,hb,hw⟩:=hw h0
   obtain⟨us,h3,h4,h5,h6⟩:=hw.list
   refine⟨us,Src.ofSlice w he _ _ _ us (by rw[h3,List.length_map,Qn l hlen]) (fun j u hu=>by rw[Addr.add_mid];exact h4 j u hu) h5,h3,h6⟩
 ·rename_i s
  split at h
  case isFalse=>cases h
  rename_i hs
  obtain⟨hs0,rfl⟩:=hs
  rw[if_pos hs0]at hty
  simp only[Option.some.injEq,Prod.mk.injEq]at h
  obtain⟨rfl,rfl⟩:=h
  obtain rfl:=hr.str_
  refine⟨byteCells s,Src.ofString w hty s,by simp [byteCells,QBb],fun i a ha=> ?_⟩
  unfold QBb at ha
  rw[List.getElem?_map]at ha
  obtain⟨x,hx,rfl⟩:=Option.map_eq_some_iff.1 ha
  exact⟨.int .u8 x.toNat,by rw[byteCells,List.getElem?_map,hx];rfl,rfl,.f (.int _ _)⟩
 ·cases h
theorem sl_src (st:St P G H Z w){id ver sz off n:Nat}{cs:List AV}{tx:TypeId}{xv:Value}(hr:RepA G Z w (.sl id ver sz off n) xv) (hc:cellsOf ver (H id)=some cs) (hin:(off+n)*sz≤cs.length)
  (hsl:∃ e,P.underlying tx=some (.slice e)):SrcA P G Z w sz tx xv n ((cs.drop (off*sz)).take (n*sz)):=by
 obtain⟨e,he⟩:=hsl
 obtain⟨loc,hG,hob,hH⟩:=st.cells hc
 rcases hr.sl_ hG with⟨rfl,A,rfl⟩|⟨g,o',c,rfl,rfl,_⟩
 ·exact⟨[],Src.any0 he A 0,by simp,fun i a h=>by simp at h⟩
 ·obtain⟨arr,et,hh,hcc⟩:=hob
  have hw:=((Wnd.of_row hh hcc).drop (off*sz)).take (n*sz)
  obtain⟨us,h3,h4,h5,h6⟩:=hw.list
  have hl:us.length=n*sz:=by rw[h3,List.length_take,List.length_drop];rw[Nat.add_mul]at hin;omega
  exact⟨us,Src.ofSlice w he _ _ _ us hl (fun j u hu=>by rw[Addr.add_mid];exact h4 j u hu) h5,h3,h6⟩

theorem Wj {z:Array Value}{n:Nat}(h:z.toList.all (·.oneCell')=true) (i:Nat) (v:Value) (hv:(Builtin.zeroCells z n)[i]? = some v):v.oneCell'=true:=by
 unfold Builtin.zeroCells at hv
 rw[Array.getElem?_map]at hv
 obtain⟨k,hk,rfl⟩:=Option.map_eq_some_iff.1 hv
 have hlt:=(Array.getElem?_eq_some_iff.1 hk).1
 have hpos:0<z.size:=by
  rcases Nat.eq_zero_or_pos z.size with h0|h0
  ·rw[h0]at hlt;simp at hlt
  ·exact h0
 have hm:k % z.size<z.size:=Nat.mod_lt _ hpos
 rw[getElem!_pos z _ hm]
 exact List.all_eq_true.1 h _ (by simp)
theorem QAr {os us:List Value}{z:Array Value}{k:Nat}(h1:∀ u∈os,u.oneCell'=true) (h2:∀ u∈us,u.oneCell'=true) (h3:z.toList.all (·.oneCell')=true):QAP ((os++us).toArray++Builtin.zeroCells z k):=fun i v hv=>by
 rcases Nat.lt_or_ge i (os++us).toArray.size with hi|hi
 ·rw[Array.getElem?_append_left hi]at hv
  rw[List.getElem?_toArray]at hv
  rcases List.mem_append.1 (List.mem_of_getElem? hv)with h|h
  ·exact h1 v h
  ·exact h2 v h
 ·rw[Array.getElem?_append_right hi]at hv
  exact Wj h3 _ v hv
theorem ones_made {z:Array Value}{k:Nat}(h:z.toList.all (·.oneCell')=true):QAP (madeCells z k):=fun i v hv=>by
 unfold madeCells at hv
 rw[Array.getElem?_map]at hv
 obtain⟨j,hj,rfl⟩:=Option.map_eq_some_iff.1 hv
 by_cases hz:0<z.size
 ·rw[getElem!_pos z _ (Nat.mod_lt _ hz)]
  exact List.all_eq_true.1 h _ (by simp)
 ·have e:z = #[]:=Array.eq_empty_of_size_eq_zero (by omega)
  subst e;rfl
theorem St.newAt (st:St P G H Z w){id ver':Nat}(hlt:(H id).1<ver'){arr:Array Value}{e:TypeId}{cs:List AV}(hc:CellsR (RepA G Z w) arr 0 cs) (hon:QAP arr) :
  St P (upd G id (ver',some (some (w.heap.size,0)))) (upd H id (ver',some (.cells cs))) Z (w.drew.alloc (.cells arr e))∧Step G Z w (upd G id (ver',some (some (w.heap.size,0)))) Z (w.drew.alloc (.cells arr e)):=by
 refine st.change id w.heap.size ((Only.drew _ w).trans (Only.alloc w.drew _)) _ _ (.inl rfl) (.inl (by simp)) rfl (Nat.le_of_lt hlt) (fun h=> ?_) (.inr (.inr ⟨0,rfl⟩)) (fun _=>QCk w.drew hon) (fun h=>by cases h) fun o ho=>⟨_,rfl,fun hk=> ?_⟩
 ·exact absurd h (by simp only;omega)
 ·obtain rfl:=Option.some.inj ho
  exact⟨arr,e,heap_alloc_new w.drew _,hc.mono fun a v hr=>hr.keep hk⟩
theorem St.virtAt (st:St P G H Z w){id ver':Nat}(hlt:(H id).1<ver') :
  St P (upd G id (ver',some none)) (upd H id (ver',some (.cells []))) Z w∧Step G Z w (upd G id (ver',some none)) Z w:=by
 refine st.change id w.heap.size (Only.refl _ w) _ _ (.inl rfl) (.inr fun o h=>by cases h) rfl (Nat.le_of_lt hlt) (fun h=> ?_) (.inr (.inl rfl)) (fun ⟨_,h⟩=>by cases h) (fun h=>by cases h) fun o ho=>⟨_,rfl,fun hk=> ?_⟩
 ·exact absurd h (by simp only;omega)
 ·obtain rfl:=Option.some.inj ho
  rfl

def AppOk (P:Program) (s:Sem Value) (G:QM) (H:Heap) (Z:Nat→Prop) (w:World) (v:AV) (H':Heap):Prop:=
 ∃ G' w' u,s.run P w=.ok u w'∧St P G' H' Z w'∧Step G Z w G' Z w'∧RepA G' Z w' v u

section app
variable {ty tx tt e:TypeId}{i:TypeInfo}{z:Value}{sz bytes:Nat}
theorem QAN (st:St P G H Z w) (ht:P.underlying ty=some (.slice e)) (hi:P.info? e=some i) (hz:i.zero=some z) (hsz:i.size=sz) (hzs:z.cells.size=sz) (hzo:z.cells.toList.all (·.oneCell')=true) (hby:i.bytes=bytes) (hpos:sz≠0)
  {id ver':Nat}(hlt:(H id).1<ver'){A:Option Addr}{n c:Nat}{olds:List AV}(holds:olds.length=n*sz)
  (hbase:(n=0)∨∃ b o,A=some ⟨b,o,none⟩∧Wnd (RepA G Z w) w b o olds){xv:Value}{m:Nat}{news:List AV}(hs:SrcA P G Z w sz tx xv m news)
  (hc:c<n+m) (hnc:n≤c) (hb:(n+m)*bytes≤140737488355328) (hml:n+m≤maxLen) :
  AppOk P (Builtin.append_ #[ty,tx] tt #[.slice A n c,xv]) G H Z w (.sl id ver' sz 0 (n+m)) (upd H id (ver',some (.cells (olds++news)))):=by
 obtain⟨us,hsrc,hul,hus⟩:=hs
 subst hsz
 obtain⟨os,hos1,hos2,hos3⟩:∃ os:List Value,os.length=n*i.size∧(Builtin.firstCells i.size n (.slice A n c)).run P w.drew=.ok os.toArray w.drew∧∀ (j:Nat) (a:AV),olds[j]? = some a→∃ u,os[j]? = some u∧u.oneCell'=true∧RepA G Z w a u:=by
  rcases hbase with rfl|⟨b,o,rfl,hw⟩
  ·refine⟨[],by simp,?_,fun j a ha=> ?_⟩
   ·cases A with
    | none=>exact run_firstCells_none w.drew i.size 0 0 c
    | some a=>exact run_firstCells_some w.drew i.size 0 a 0 c [] (by simp) (fun j u h=>by simp at h)
   ·have:olds = []:=List.eq_nil_of_length_eq_zero (by simpa using holds)
    subst this;simp at ha
  ·obtain⟨os,h3,h4,h5,h6⟩:=hw.list
   exact⟨os,by omega,run_firstCells_some w.drew i.size n _ n c os (by omega) (fun j u hu=>by rw[Addr.add_mid];simpa using h4 j u hu),h6⟩
 have h63:((n+m:Nat):Int)≤9223372036854775807:=by unfold maxLen at hml;omega
 have hrun:=run_append_grow_src (P:=P) w ty tx tt e i z ht hi hz A n c os hos2 xv m us hsrc hc h63 (growslice_fits hc (by rw[hby];exact hb))
 have hge:=grownCap_ge w (n+m) c e
 have hle:=grownCap_le_maxLen w (n+m) c e hml
 obtain⟨gc,hgc⟩:∃ gc,grownCap w (n+m) c e=gc:=⟨_,rfl⟩
 rw[hgc]at hrun hge hle
 have hul2:=hsrc.newsLen
 have hcells:CellsR (RepA G Z w) ((os++us).toArray++Builtin.zeroCells z.cells (gc - (n+m))) 0 (olds++news):=by
  intro j a ha
  rw[Nat.zero_add]
  have key:∃ u,(os++us)[j]? = some u∧u.oneCell'=true∧RepA G Z w a u:=by
   rcases Nat.lt_or_ge j olds.length with hj|hj
   ·rw[List.getElem?_append_left hj]at ha
    obtain⟨u,h1,h2⟩:=hos3 j a ha
    exact⟨u,by rw[List.getElem?_append_left (by omega)];exact h1,h2⟩
   ·rw[List.getElem?_append_right hj]at ha
    obtain⟨u,h1,h2⟩:=hus _ a ha
    exact⟨u,by rw[List.getElem?_append_right (by omega),show j - os.length=j - olds.length by omega];exact h1,h2⟩
  obtain⟨u,h1,h2⟩:=key
  refine⟨u,?_,h2⟩
  have hj:=(List.getElem?_eq_some_iff.1 h1).1
  rw[Array.getElem?_append_left (by simpa using hj)]
  simpa using h1
 obtain⟨s1,s2⟩:=st.newAt hlt (e:=e) hcells (QAr (fun u hu=>by
   obtain⟨j,hj⟩:=List.getElem?_of_mem hu
   have hjl:=(List.getElem?_eq_some_iff.1 hj).1
   obtain⟨u',h1,h2,_⟩:=hos3 j _ (List.getElem?_eq_getElem (by omega))
   rw[hj]at h1;obtain rfl:=Option.some.inj h1;exact h2) hsrc.one hzo)
 refine⟨_,_,_,hrun,s1,s2,?_⟩
 have hsize:((os++us).toArray++Builtin.zeroCells z.cells (gc - (n+m))).size=gc*i.size:=by
  rw[Array.size_append,size_zeroCells,hzs]
  simp only[List.size_toArray,List.length_append]
  rw[hos1,hul2,← Nat.add_mul,← Nat.add_mul]
  congr 1;omega
 have:=RepA.slLive (G:=upd G id (ver',some (some (w.heap.size,0)))) (Z:=Z) (w:=w.drew.alloc (.cells ((os++us).toArray++Builtin.zeroCells z.cells (gc - (n+m))) e)) id ver' i.size 0 (n+m) w.heap.size 0 gc (by simp) hge hle
  ⟨_,e,(0,0),heap_alloc_new w.drew _,by rw[hsize];simp⟩
 simpa using this

theorem Nf {n bytes:Nat}(h:n*bytes≤140737488355328) (hb:bytes≠0):n≤maxLen:=by
 have:n*1≤n*bytes:=Nat.mul_le_mul_left _ (by omega)
 unfold maxLen;omega
theorem app_any (st:St P G H Z w) (ht:P.underlying ty=some (.slice e)) (hi:P.info? e=some i) (hz:i.zero=some z) (hsz:i.size=sz) (hzs:z.cells.size=sz) (hzo:z.cells.toList.all (·.oneCell')=true) (hby:i.bytes=bytes) (hpos:sz≠0) (hbp:bytes≠0)
  {id ver off n:Nat}{sv xv:Value}{m:Nat}{news:List AV}(hr:RepA G Z w (.sl id ver sz off n) sv) (hs:SrcA P G Z w sz tx xv m news){r:AV}{x:Nat × Option AObj}(hg:growA sz bytes ver off n m news id (H id)=some (r,x)) :
  AppOk P (Builtin.append_ #[ty,tx] tt #[sv,xv]) G H Z w r (upd H id x):=by
 unfold growA at hg
 split at hg
 case h_2=>cases hg
 rename_i cs hcs
 split at hg
 case isFalse=>cases hg
 rename_i hc
 obtain⟨hlen,hb⟩:=hc
 simp only[Option.some.injEq,Prod.mk.injEq]at hg
 obtain⟨rfl,rfl⟩:=hg
 obtain⟨loc,hG,hob,hH⟩:=st.cells hcs
 have hver:(H id).1<ver+1:=by rw[hH];exact Nat.lt_succ_self ver
 have hnl:=hs.len
 have hs2:=hs
 obtain⟨us,hsrc,hul,hus⟩:=hs2
 have hml:=Nf hb hbp
 rcases hr.sl_ hG with⟨rfl,A,rfl⟩|⟨g,o',c,rfl,rfl,hnc,hcm,arr,et,fz,hh,hroom⟩
 ·have hdrop:cs.drop (off*sz) = []:=List.drop_of_length_le (by rw[hlen];simp)
  rcases Nat.eq_zero_or_pos m with rfl|hm
  ·have hus0:us = []:=List.eq_nil_of_length_eq_zero (by rw[hsrc.newsLen];simp)
   have hnews0:news = []:=List.eq_nil_of_length_eq_zero (by rw[hnl];simp)
   subst hus0 hnews0
   obtain⟨s1,s2⟩:=st.virtAt hver
   refine⟨_,_,_,run_append_nothing w ty tx tt e i ht hi A 0 0 (Nat.le_refl _) xv (by rw[hsz];exact hsrc),by rw[hdrop];exact s1,s2,?_⟩
   exact .slCap _ _ _ _ _ _ (by simp;rfl)
  ·have:=QAN (tt:=tt) st ht hi hz hsz hzs hzo hby hpos hver (A:=A) (n:=0) (c:=0) (olds:=[]) (by simp) (.inl rfl) hs (by omega) (Nat.le_refl _) hb hml
   rw[hdrop];exact this
 ·obtain⟨arr2,et2,hh2,hcc⟩:=hob
  rw[hh]at hh2
  simp only[Option.some.injEq,Obj.cells.injEq]at hh2
  obtain⟨rfl,rfl,rfl⟩:=hh2
  have hdl:(cs.drop (off*sz)).length=n*sz:=by rw[List.length_drop,hlen,Nat.add_mul];omega
  rcases Nat.lt_or_ge c (n+m)with hgrow|hfit
  ·exact QAN (tt:=tt) st ht hi hz hsz hzs hzo hby hpos hver (A:=some ⟨g,o'+off*sz,none⟩) (n:=n) (c:=c) hdl
    (.inr ⟨g,_,rfl,(Wnd.of_row hh hcc).drop (off*sz)⟩) hs hgrow hnc hb hml
  ·have hspace:o'+off*sz+n*sz+us.length≤arr.size:=by
    rw[hsrc.newsLen,Nat.add_assoc,← Nat.add_mul]
    have:(n+m)*sz≤c*sz:=Nat.mul_le_mul_right _ hfit
    rw[Nat.add_mul]at hroom
    omega
   have hcell:∀ j,j<us.length→∃ u,w.cell? ⟨g,o'+off*sz+n*sz+j,none⟩=some u:=fun j hj=>by
    rw[cell_of_row w g _ arr et (0,0) hh]
    exact⟨_,Array.getElem?_eq_getElem (by omega)⟩
   have hrun:=run_append_room_src (P:=P) w ty tx tt e i ht hi g (o'+off*sz) n c xv m us (by rw[hsz];exact hsrc) hfit
    (fun j hj=>by rw[hsz];obtain⟨u,hu⟩:=hcell j hj;rw[hu];rfl) (fun j hj=>by simp [World.frozen?,hh])
   rw[hsz]at hrun
   obtain⟨arr',k1,k2,k3,k4⟩:=Xa g et (0,0) us (o'+off*sz+n*sz) w arr hh
   have hch:=st.change id g (Only.setCells g (o'+off*sz+n*sz) us w) (ver+1,some (some (g,o'+off*sz))) (ver+1,some (.cells (cs.drop (off*sz)++news))) (.inr ⟨o',by rw[hG]⟩)
    (.inl (VK k1)) rfl (Nat.le_of_lt hver) (fun h=>absurd h (by simp only;omega)) (.inr (.inr ⟨_,rfl⟩)) (fun _=>KF g et (0,0) us _ w (st.ones id g o' (by rw[hG])) hsrc.one) (fun h=>by cases h) (fun ob hob=>by
      obtain rfl:=Option.some.inj hob
      refine⟨_,rfl,fun hk=>⟨arr',et,k1,fun j a ha=> ?_⟩⟩
      rcases Nat.lt_or_ge j (n*sz)with hj|hj
      ·rw[List.getElem?_append_left (by omega),List.getElem?_drop]at ha
       obtain⟨u,h1,h2,h3⟩:=hcc _ a ha
       exact⟨u,by rw[k3 _ (by omega),Nat.add_assoc];exact h1,h2,h3.keep hk⟩
      ·rw[List.getElem?_append_right (by omega)]at ha
       obtain⟨u,h1,h2,h3⟩:=hus _ a ha
       have hlt:=(List.getElem?_eq_some_iff.1 h1).1
       refine⟨u,?_,h2,h3.keep hk⟩
       rw[hdl]at h1
       have:=k4 (j - n*sz) u h1 (by omega)
       rw[show o'+off*sz+j=o'+off*sz+n*sz+(j - n*sz) by omega]
       exact this)
   refine⟨_,_,_,hrun,hch.1,hch.2,?_⟩
   have:=RepA.slLive (G:=upd G id (ver+1,some (some (g,o'+off*sz)))) (Z:=Z) (w:=w.setCells g (o'+off*sz+n*sz) us) id (ver+1) sz 0 (n+m) g (o'+off*sz) c (by simp) hfit hcm
    ⟨arr',et,(0,0),k1,by rw[k2,Nat.zero_add];rw[Nat.add_mul]at hroom;omega⟩
   simpa using this
theorem QDA (st:St P G H Z w) (ht:P.underlying ty=some (.slice e)) (hi:P.info? e=some i) (hz:i.zero=some z) (hsz:i.size=sz) (hzs:z.cells.size=sz) (hzo:z.cells.toList.all (·.oneCell')=true) (hby:i.bytes=bytes) (hpos:sz≠0) (hbp:bytes≠0)
  {id:Nat}{sv xv:Value}{m:Nat}{news:List AV}(hr:RepA G Z w (.f .nil) sv) (hs:SrcA P G Z w sz tx xv m news){r:AV}{x:Nat × Option AObj}(hg:bornA sz bytes m news id (H id)=some (r,x)) :
  AppOk P (Builtin.append_ #[ty,tx] tt #[sv,xv]) G H Z w r (upd H id x):=by
 unfold bornA at hg
 split at hg
 case h_2=>cases hg
 rename_i ver hd
 split at hg
 case isFalse=>cases hg
 rename_i hb
 simp only[Option.some.injEq,Prod.mk.injEq]at hg
 obtain⟨rfl,rfl⟩:=hg
 have hver:(H id).1<ver+1:=by rw[hd];exact Nat.lt_succ_self ver
 have hnl:=hs.len
 have hs2:=hs
 obtain⟨us,hsrc,hul,hus⟩:=hs2
 have hml:=Nf hb hbp
 obtain⟨A,rfl⟩:=hr.nil_
 rcases Nat.eq_zero_or_pos m with rfl|hm
 ·have hus0:us = []:=List.eq_nil_of_length_eq_zero (by rw[hsrc.newsLen];simp)
  have hnews0:news = []:=List.eq_nil_of_length_eq_zero (by rw[hnl];simp)
  subst hus0 hnews0
  obtain⟨s1,s2⟩:=st.virtAt hver
  refine⟨_,_,_,run_append_nothing w ty tx tt e i ht hi A 0 0 (Nat.le_refl _) xv (by rw[hsz];exact hsrc),s1,s2,?_⟩
  exact .slCap _ _ _ _ _ _ (by simp;rfl)
 ·have:=QAN (tt:=tt) st ht hi hz hsz hzs hzo hby hpos hver (A:=A) (n:=0) (c:=0) (olds:=[]) (by simp) (.inl rfl) hs (by omega) (Nat.le_refl _) (by simpa using hb) (by simpa using hml)
  simpa using this
end app

theorem YG {ty:TypeId}(h:Wy P ty=true):P.underlying ty=some .string:=by
 unfold Wy at h
 split at h
 ·assumption
 ·cases h
theorem Qy {ty e:TypeId}(h:elemOf? P ty=some e):P.underlying ty=some (.slice e):=by
 unfold elemOf? at h
 split at h
 ·rename_i e2 h2
  obtain rfl:=Option.some.inj h
  exact h2
 ·cases h
theorem Zd {ty:TypeId}(h:(elemOf? P ty).isSome=true):∃ e,P.underlying ty=some (.slice e):=by
 obtain⟨e,he⟩:=Option.isSome_iff_exists.1 h
 exact⟨e,Qy he⟩

theorem QAw (st:St P G H Z w) (hρ : ∀ x,RepA G Z w (ρ x) (ρc x)) (str:Bool) (ty tx e:TypeId) (sz bytes:Nat) (s x:Operand) (he:elemOf? P ty=some e) (hs:sizeOf? P e=some sz) (hb:bytesOf? P e=some bytes)
  (hpos:sz≠0) (hbp:bytes≠0) (hz:(Ql P e).isSome=true) (hty:if str=true then P.underlying tx=some .string else ∃ e,P.underlying tx=some (.slice e))
  (hx:(eff (.append str e sz bytes s x) ρ t).exec H=some (v,H')) (c:Call) (ho:o.op=.call c) (hc:c.callee=.builtin .append) (hargs:c.args = #[s,x]) (hat:c.argTypes = #[ty,tx]):OpOk P (execOp ρc o) G H Z w v H':=by
 have ha:=hρ s
 have hb2:=hρ x
 obtain⟨zz,hzz⟩:=Option.isSome_iff_exists.1 hz
 obtain⟨i,z,hi,hzv,hzo,hzs,_⟩:=Ve hzz
 have hsz:i.size=sz:=by unfold sizeOf? at hs;rw[hi]at hs;simpa using hs
 have hby:i.bytes=bytes:=by unfold bytesOf? at hb;rw[hi]at hb;simpa using hb
 have hzs2:z.cells.size=sz:=by omega
 have hu:=Qy he
 have fin:AppOk P (Builtin.append_ #[ty,tx] o.type #[ρc s,ρc x]) G H Z w v H'→OpOk P (execOp ρc o) G H Z w v H':=by
  rintro⟨G',w',u,h1,h2,h3,h4⟩
  refine⟨G',Z,w',u,.inl ?_,h2,h3,h4⟩
  simp [execOp,ho,resolve,hc,hargs,hat,invoke,builtin,h1]
 simp only[eff]at hx
 split at hx
 ·rename_i id ver sz' off n e1 e2
  split at hx
  case isFalse=>cases hx
  rename_i hc2
  obtain⟨hs0,rfl,hne⟩:=hc2
  rw[if_neg (by simp [hs0])]at hty
  obtain⟨y,h1,rfl⟩:=QAD hx
  split at h1
  case h_2=>cases h1
  rename_i cs hcs
  split at h1
  case isFalse=>cases h1
  rename_i hin
  rw[e2]at hb2
  rw[e1]at ha
  exact fin (QDA st hu hi hzv hsz hzs2 hzo hby hpos hbp ha (sl_src st hb2 hcs hin hty) h1)
 ·rename_i id ver sz1 off n id2 ver2 sz2 off2 n2 e1 e2
  split at hx
  case isFalse=>cases hx
  rename_i hc2
  obtain⟨hs0,rfl,rfl,hne⟩:=hc2
  rw[if_neg (by simp [hs0])]at hty
  obtain⟨y,h1,rfl⟩:=QAD hx
  split at h1
  case h_2=>cases h1
  rename_i cs hcs
  split at h1
  case isFalse=>cases h1
  rename_i hin
  rw[e2]at hb2
  rw[e1]at ha
  exact fin (app_any st hu hi hzv hsz hzs2 hzo hby hpos hbp ha (sl_src st hb2 hcs hin hty) h1)
 ·rename_i b e1 _
  split at hx
  case h_2=>cases hx
  rename_i m news hsrc
  obtain⟨y,h1,rfl⟩:=YC hx
  rw[e1]at ha
  exact fin (QDA st hu hi hzv hsz hzs2 hzo hby hpos hbp ha (srcF_ok hsrc hb2 hty) h1)
 ·rename_i id ver sz' off n b e1 _
  split at hx
  case isFalse=>cases hx
  rename_i hc2
  subst hc2
  split at hx
  case h_2=>cases hx
  rename_i m news hsrc
  obtain⟨y,h1,rfl⟩:=YC hx
  rw[e1]at ha
  exact fin (app_any st hu hi hzv hsz hzs2 hzo hby hpos hbp ha (srcF_ok hsrc hb2 hty) h1)
 ·cases hx

theorem QAt (st:St P G H Z w) (hρ : ∀ x,RepA G Z w (ρ x) (ρc x)) (ty e:TypeId) (sz bytes:Nat) (z:List FV) (l c:Operand) (he:elemOf? P ty=some e) (hs:sizeOf? P e=some sz) (hb:bytesOf? P e=some bytes) (hz:Ql P e=some z) (hpos:sz≠0)
  (hx:(eff (.makeSlice e sz bytes z l c) ρ t).exec H=some (v,H')) (ho:o.op=.makeSlice ty l c):OpOk P (execOp ρc o) G H Z w v H':=by
 obtain⟨i,zv,hi,hzv,hone,hzs,rfl⟩:=Ve hz
 have hsz:i.size=sz:=by unfold sizeOf? at hs;rw[hi]at hs;simpa using hs
 have hby:i.bytes=bytes:=by unfold bytesOf? at hb;rw[hi]at hb;simpa using hb
 simp only[eff]at hx
 split at hx
 case h_2=>cases hx
 rename_i n m e1 e2
 obtain⟨k1,h1⟩:=(hρ l).toI_ e1
 obtain⟨k2,h2⟩:=(hρ c).toI_ e2
 split at hx
 case isFalse=>cases hx
 rename_i hc
 obtain⟨h0,hnm,hbb,hm63⟩:=hc
 obtain⟨ver,hd,rfl,rfl⟩:=Zb hx
 have hrun:=run_make (P:=P) w ty e i zv (Qy he) hi hzv k1 k2 n m h0 hnm (by rw[hby,Int.mul_comm];omega) hm63
 have hcells:CellsR (RepA G Z w) (madeCells zv.cells (m.toNat*i.size)) 0 (Qd n.toNat (zv.cells.toList.map FV.ofValue)):=by
  intro j a ha
  unfold Qd at ha
  rw[List.getElem?_map]at ha
  obtain⟨x,hx,rfl⟩:=Option.map_eq_some_iff.1 ha
  have hun:∀ y∈List.replicate n.toNat (zv.cells.toList.map FV.ofValue),y.length=sz:=fun y hy=>by
   rw[List.eq_of_mem_replicate hy,List.length_map,Array.length_toList];omega
  obtain⟨k,jj,y,h3,h4,rfl,h5⟩:=YB _ hun j x hx
  have hk:=(List.getElem?_eq_some_iff.1 h3).1
  rw[List.length_replicate]at hk
  have hy:y=zv.cells.toList.map FV.ofValue:=List.eq_of_mem_replicate (List.mem_of_getElem? h3)
  subst hy
  rw[List.getElem?_map]at h4
  obtain⟨u,hu,rfl⟩:=Option.map_eq_some_iff.1 h4
  rw[Array.getElem?_toList]at hu
  refine⟨u,?_,List.all_eq_true.1 hone u (Array.mem_toList_iff.2 (Array.mem_of_getElem? hu)),.f (RepF.ofValue Z w u)⟩
  rw[Nat.zero_add]
  have hlt:k*sz+jj<m.toNat*i.size:=by
   have:(k+1)*sz≤m.toNat*sz:=Nat.mul_le_mul_right _ (by omega)
   rw[Nat.add_mul]at this;rw[hsz];omega
  unfold madeCells
  rw[Array.getElem?_map,Array.getElem?_eq_getElem (by simpa using hlt)]
  simp only[Array.getElem_range,Option.map_some,Option.some.injEq]
  have hmod:(k*sz+jj) % zv.cells.size=jj:=by
   rw[show zv.cells.size=sz by omega,Nat.mul_comm,Nat.mul_add_mod];exact Nat.mod_eq_of_lt h5
  rw[hmod]
  obtain⟨hlt2,he2⟩:=Array.getElem?_eq_some_iff.1 hu
  rw[getElem!_pos zv.cells jj hlt2];exact he2
 obtain⟨s1,s2⟩:=st.new hd (e:=e) hcells (ones_made hone)
 refine⟨_,Z,_,.slice (some ⟨w.heap.size,0,none⟩) n.toNat m.toNat,.inl ?_,s1,s2,?_⟩
 ·simp [execOp,ho,h1,h2,hrun]
 ·have:=RepA.slLive (G:=upd G t (ver+1,some (some (w.heap.size,0)))) (Z:=Z) (w:=w.alloc (.cells (madeCells zv.cells (m.toNat*i.size)) e)) t (ver+1) sz 0 n.toNat w.heap.size 0 m.toNat (by simp) (by omega) (by unfold maxLen;omega)
   ⟨_,e,(0,0),heap_alloc_new w _,by rw[size_madeCells];simp [hsz]⟩
  simpa using this

theorem ZK (hρ : ∀ x,RepA G Z w (ρ x) (ρc x)){n a b:Nat}{lo hi:Option Operand}(h:YK n ρ lo hi=some (a,b)) :
  a≤b∧b≤n∧(∀ isS cap,n≤cap→(Instr.sliceBounds isS n cap (lo.map ρc) (hi.map ρc) none).run P w=.ok (a,b,cap) w):=by
 unfold YK at h
 split at h
 case h_2=>cases h
 rename_i x y e1 e2
 split at h
 case isFalse=>cases h
 rename_i hc
 obtain⟨h0,h1,h2⟩:=hc
 simp only[Option.some.injEq,Prod.mk.injEq]at h
 obtain⟨rfl,rfl⟩:=h
 refine⟨by omega,by omega,fun isS cap hcap=> ?_⟩
 have hhi:∀ (code:BoundsCode),match hi with|some h=>∃ k,ρc h=.int k x∧0≤x∧x≤(cap:Int)|none=>x=(n:Int):=fun code=>by
  cases hi with
  | none=>simp only[Option.some.injEq]at e1;exact e1.symm
  | some h=>
   obtain⟨k,hk⟩:=(hρ h).toI_ e1
   exact⟨k,hk,by omega,by omega⟩
 have hlo:match lo with|some l=>∃ k,ρc l=.int k y|none=>y=0:=by
  cases lo with
  | none=>simp only[Option.some.injEq]at e2;exact e2.symm
  | some l=>exact(hρ l).toI_ e2
 have bnd:∀ k (i:Int) (m:Nat) code,0≤i→i≤m→(Instr.sliceBound (.int k i) m code).run P w=.ok i.toNat w:=fun k i m code g0 g1=>by
  simp [Instr.sliceBound,asIntOf,g0,g1]
 have hx:=hhi .index
 cases hi with
 | none=>
  simp only at hx
  subst hx
  cases lo with
  | none=>simp only at hlo;subst hlo;simp [Instr.sliceBounds]
  | some l=>
   obtain⟨k,hk⟩:=hlo
   simp [Instr.sliceBounds,hk,bnd k y n _ h0 (by omega)]
 | some h=>
  obtain⟨k2,hk2,g0,g1⟩:=hx
  have hxn:((x.toNat:Nat):Int)=x:=by omega
  cases lo with
  | none=>simp only at hlo;subst hlo;simp [Instr.sliceBounds,hk2,bnd k2 x cap _ g0 g1]
  | some l=>
   obtain⟨k,hk⟩:=hlo
   simp [Instr.sliceBounds,hk,hk2,bnd k2 x cap _ g0 g1,bnd k y x.toNat _ h0 (by omega)]

theorem ok_sliceS (st:St P G H Z w) (hρ : ∀ x,RepA G Z w (ρ x) (ρc x)) (ty:TypeId) (x:Operand) (lo hi:Option Operand) (hs:Wy P ty=true) (hx:(eff (.sliceS x lo hi) ρ t).exec H=some (v,H')) (ho:o.op=.slice ty x lo hi none):OpOk P (execOp ρc o) G H Z w v H':=by
 have ha:=hρ x
 simp only[eff]at hx
 split at hx
 case h_2=>cases hx
 rename_i s e
 split at hx
 case h_2=>cases hx
 rename_i a b hb
 obtain⟨rfl,rfl⟩:=QN hx
 obtain⟨h1,h2,h3⟩:=ZK (P:=P) hρ hb
 rw[e]at ha
 refine OpOk.pure st (u:= .string (s.extract a b)) ?_ (.f (.str _))
 simp [execOp,ho,Instr.sliceAt,Instr.slice,run_underlying (YG hs),ha.str_,h3 false s.size (Nat.le_refl _)]

theorem ok_slice (st:St P G H Z w) (hρ : ∀ x,RepA G Z w (ρ x) (ρc x)) (ty e:TypeId) (sz:Nat) (x:Operand) (lo hi:Option Operand) (he:elemOf? P ty=some e) (hs:sizeOf? P e=some sz) (hx:(eff (.slice sz x lo hi) ρ t).exec H=some (v,H')) (ho:o.op=.slice ty x lo hi none):OpOk P (execOp ρc o) G H Z w v H':=by
 have ha:=hρ x
 have hu:=Qy he
 unfold sizeOf? at hs
 cases hinf:P.info? e with
 | none=>rw[hinf]at hs;cases hs
 | some inf=>
 rw[hinf]at hs
 have hsz:inf.size=sz:=by simpa using hs
 have key:∀ A n c a b,ρc x=.slice A n c→n≤c→YK n ρ lo hi=some (a,b)→(execOp ρc o).run P w=.ok (.value (.slice (if c=a then A else A.map (·.add (a*sz))) (b - a) (c - a))) w:=by
  intro A n c a b hp hnc hb
  obtain⟨h1,h2,h3⟩:=ZK (P:=P) hρ hb
  simp [execOp,ho,Instr.sliceAt,Instr.slice,run_underlying hu,hp,h3 true c hnc,sizeOf,typeInfo,hinf,hsz]
 simp only[eff]at hx
 split at hx
 ·rename_i e1
  split at hx
  case h_2=>cases hx
  rename_i p hb
  obtain⟨a,b⟩:=p
  obtain⟨rfl,rfl⟩:=QN hx
  rw[e1]at ha
  obtain⟨A,hp⟩:=ha.nil_
  obtain⟨h1,h2,_⟩:=ZK (P:=P) hρ hb
  refine OpOk.pure st (key A 0 0 a b hp (Nat.le_refl _) hb) ?_
  obtain rfl:b=0:=by omega
  obtain rfl:a=0:=by omega
  exact .f (.nil _)
 ·rename_i sz' l e1
  split at hx
  case isFalse=>cases hx
  rename_i hs2
  subst hs2
  split at hx
  case h_2=>cases hx
  rename_i a b hb
  obtain⟨rfl,rfl⟩:=QN hx
  rw[e1]at ha
  obtain⟨h1,h2,_⟩:=ZK (P:=P) hρ hb
  obtain⟨vx,hvx⟩:∃ vx,ρc x=vx:=⟨_,rfl⟩
  rw[hvx]at ha
  have hlen:((l.take b).drop a).length=b - a:=by rw[List.length_drop,List.length_take];omega
  cases ha.f_ with
  | frNil _ A c hc=>
   refine OpOk.pure st (key A 0 c a b hvx (Nat.zero_le _) hb) ?_
   simp only[List.length_nil]at h2
   obtain rfl:b=0:=by omega
   obtain rfl:a=0:=by omega
   exact .f (.frNil _ _ _ (by simpa using hc))
  | fr _ _ b' o' c us g1 g2 g3 hb' hl hcell hrep=>
   refine OpOk.pure st (key _ _ c a b hvx g2 hb) ?_
   rcases Nat.eq_zero_or_pos (b - a)with h0|h0
   ·have hnil:(l.take b).drop a = []:=List.eq_nil_of_length_eq_zero (by omega)
    rw[hnil,h0]
    exact .f (.frNil _ _ _ (by omega))
   ·rw[if_neg (by omega)]
    simp only[Option.map_some,Addr.add_mid]
    have:=RepF.fr (Z:=Z) (w:=w) sz' ((l.take b).drop a) b' (o'+a*sz') (c - a) (fun k j=>us (a+k) j) (by omega) (by omega) (by omega) hb'
     (fun y hy=>hl y (List.mem_of_mem_take (List.mem_of_mem_drop hy))) (fun k j hk hj=>by
       have:=hcell (a+k) j (by omega) hj
       rw[show o'+a*sz'+k*sz'+j=o'+(a+k)*sz'+j by rw[Nat.add_mul];omega];exact this) (fun k j y f hk hj=>by
       have hk':=(List.getElem?_eq_some_iff.1 hk).1
       rw[List.getElem?_drop,List.getElem?_take_of_lt (by omega)]at hk
       exact hrep (a+k) j y f hk hj)
    rw[hlen]at this
    exact .f this
 ·rename_i id ver sz' off n e1
  split at hx
  case isFalse=>cases hx
  rename_i hs2
  subst hs2
  split at hx
  case h_2=>cases hx
  rename_i a b hb
  obtain⟨h4,rfl⟩:=YN hx
  split at h4
  case isFalse=>cases h4
  rename_i hal
  obtain rfl:=Option.some.inj h4
  obtain⟨loc,hG⟩:=st.alive hal
  rw[e1]at ha
  obtain⟨h1,h2,_⟩:=ZK (P:=P) hρ hb
  rcases ha.sl_ hG with⟨rfl,A,hp⟩|⟨g,o',c,rfl,hp,hnc,hcm,arr,et,fz,hh,hroom⟩
  ·refine OpOk.pure st (key A 0 0 a b hp (Nat.le_refl _) hb) ?_
   obtain rfl:b=0:=by omega
   obtain rfl:a=0:=by omega
   exact .slCap _ _ _ _ _ _ hG
  ·refine OpOk.pure st (key _ n c a b hp hnc hb) ?_
   by_cases hca:c=a
   ·rw[if_pos hca]
    subst hca
    have:b - c=0:=by omega
    rw[this,Nat.sub_self]
    exact .slCap _ _ _ _ _ _ hG
   ·rw[if_neg hca]
    simp only[Option.map_some,Addr.add_mid]
    rw[Nat.add_assoc,← Nat.add_mul]
    exact .slLive id ver sz' (off+a) (b - a) g o' (c - a) hG (by omega) (by omega) ⟨arr,et,fz,hh,by rw[show off+a+(c - a)=off+c by omega];exact hroom⟩
 ·cases hx

theorem QAs (st:St P G H Z w) (hρ : ∀ x,RepA G Z w (ρ x) (ρc x)) (ty e:TypeId) (sz:Nat) (x:Operand) (lo:Option Operand) (lo' hi mx:Operand) (hlo:lo=some lo'∨(lo=none∧lo'=.const (.int .i64 0))) (he:elemOf? P ty=some e) (hs:sizeOf? P e=some sz) (hx:(eff (.slice0 x lo' hi mx) ρ t).exec H=some (v,H')) (ho:o.op=.slice ty x lo (some hi) (some mx)):OpOk P (execOp ρc o) G H Z w v H':=by
 have ha:=hρ x
 have hu:=Qy he
 unfold sizeOf? at hs
 cases hinf:P.info? e with
 | none=>rw[hinf]at hs;cases hs
 | some inf=>
 simp only[eff]at hx
 split at hx
 case h_2=>cases hx
 rename_i e0 e1 e2
 obtain⟨k1,h1⟩:=(hρ hi).toI_ e1
 obtain⟨k2,h2⟩:=(hρ mx).toI_ e2
 have bnd:∀ k (m:Nat) code,(Instr.sliceBound (.int k 0) m code).run P w=.ok 0 w:=fun k m code=>by
  simp [Instr.sliceBound,asIntOf]
 have key:∀ A n c,ρc x=.slice A n c→∃ B,(execOp ρc o).run P w=.ok (.value (.slice B 0 0)) w:=by
  intro A n c hp
  rcases hlo with rfl|⟨rfl,rfl⟩
  ·obtain⟨k0,h0⟩:=(hρ lo').toI_ e0
   exact⟨A,by simp [execOp,ho,Instr.sliceAt,Instr.slice,run_underlying hu,hp,Instr.sliceBounds,h0,h1,h2,bnd,sizeOf,typeInfo,hinf]⟩
  ·exact⟨A,by simp [execOp,ho,Instr.sliceAt,Instr.slice,run_underlying hu,hp,Instr.sliceBounds,h1,h2,bnd,sizeOf,typeInfo,hinf]⟩
 split at hx
 ·rename_i e3
  obtain⟨rfl,rfl⟩:=QN hx
  rw[e3]at ha
  obtain⟨A,hp⟩:=ha.nil_
  obtain⟨B,hB⟩:=key _ _ _ hp
  exact OpOk.pure st hB (.f (.nil _))
 ·rename_i sz' l e3
  obtain⟨rfl,rfl⟩:=QN hx
  rw[e3]at ha
  obtain⟨A,c,hp,_⟩:=ha.fr_
  obtain⟨B,hB⟩:=key _ _ _ hp
  exact OpOk.pure st hB (.f (.nil _))
 ·rename_i id ver sz' off n e3
  obtain⟨h4,rfl⟩:=YN hx
  split at h4
  case isFalse=>cases h4
  rename_i hal
  obtain rfl:=Option.some.inj h4
  obtain⟨loc,hG⟩:=st.alive hal
  rw[e3]at ha
  rcases ha.sl_ hG with⟨_,A,hp⟩|⟨g,o',c,_,hp,_⟩
  ·obtain⟨B,hB⟩:=key _ _ _ hp
   exact OpOk.pure st hB (.f (.nil _))
  ·obtain⟨B,hB⟩:=key _ _ _ hp
   exact OpOk.pure st hB (.f (.nil _))
 ·cases hx
end
section
variable {P:Program}{G:QM}{H:Heap}{Z:Nat→Prop}{w:World}{ρ : Operand→AV}{ρc:Operand→Value}{t:Nat}{o:Oper}{v:AV}{H':Heap}

def FstA (P:Program) (G:QM) (Z:Nat→Prop) (w:World) (sz k m:Nat) (xv:Value) (news:List AV):Prop:=
 (Builtin.lenOf xv).run P w=.ok m w∧∃ us:List Value,(Builtin.firstCells sz k xv).run P w=.ok us.toArray w∧us.length=news.length∧∀ (i:Nat) (a:AV),news[i]? = some a→∃ u,us[i]? = some u∧u.oneCell'=true∧RepA G Z w a u
theorem fst_sl (st:St P G H Z w){id ver sz off n k:Nat}{cs:List AV}{xv:Value}(hr:RepA G Z w (.sl id ver sz off n) xv) (hc:cellsOf ver (H id)=some cs) (hin:(off+k)*sz≤cs.length) (hk:k≤n):FstA P G Z w sz k n xv ((cs.drop (off*sz)).take (k*sz)):=by
 obtain⟨loc,hG,hob,hH⟩:=st.cells hc
 rcases hr.sl_ hG with⟨rfl,A,rfl⟩|⟨g,o',c,rfl,rfl,_⟩
 ·obtain rfl:k=0:=by omega
  refine⟨rfl,[],?_,by simp,fun i a h=>by simp at h⟩
  cases A with
  | none=>exact run_firstCells_none w sz 0 0 0
  | some a=>exact run_firstCells_some w sz 0 a 0 0 [] (by simp) (fun j u h=>by simp at h)
 ·obtain⟨arr,et,hh,hcc⟩:=hob
  have hw:=((Wnd.of_row hh hcc).drop (off*sz)).take (k*sz)
  obtain⟨us,h3,h4,h5,h6⟩:=hw.list
  have hl:us.length=k*sz:=by rw[h3,List.length_take,List.length_drop];rw[Nat.add_mul]at hin;omega
  exact⟨rfl,us,run_firstCells_some w sz k _ n c us hl (fun j u hu=>by rw[Addr.add_mid];exact h4 j u hu),h3,h6⟩
theorem fst_fr {sz k:Nat}{l:List (List FV)}{xv:Value}(hr:RepA G Z w (.f (.fr sz l)) xv) (hk:k≤l.length):FstA P G Z w sz k l.length xv ((l.flatten.map .f).take (k*sz)):=by
 obtain⟨A,c,rfl,h1,h2,hlen,hw⟩:=QCx hr
 rcases Nat.eq_zero_or_pos l.length with h0|h0
 ·obtain rfl:k=0:=by omega
  refine⟨rfl,[],?_,by simp,fun i a h=>by simp at h⟩
  cases A with
  | none=>exact run_firstCells_none w sz 0 _ c
  | some a=>exact run_firstCells_some w sz 0 a _ c [] (by simp) (fun j u h=>by simp at h)
 ·obtain⟨b,o',rfl,hb,hw⟩:=hw h0
  obtain⟨us,h3,h4,h5,h6⟩:=(hw.take (k*sz)).list
  have hl:us.length=k*sz:=by
   rw[h3,List.length_take,List.length_map,Qn l hlen]
   have:k*sz≤l.length*sz:=Nat.mul_le_mul_right _ hk
   omega
  exact⟨rfl,us,run_firstCells_some w sz k _ l.length c us hl (fun j u hu=>by rw[Addr.add_mid];exact h4 j u hu),h3,h6⟩
theorem fst_nil {sz:Nat}{xv:Value}(hr:RepA G Z w (.f .nil) xv):FstA P G Z w sz 0 0 xv []:=by
 obtain⟨A,rfl⟩:=hr.nil_
 refine⟨rfl,[],?_,rfl,fun i a h=>by simp at h⟩
 cases A with
 | none=>exact run_firstCells_none w sz 0 0 0
 | some a=>exact run_firstCells_some w sz 0 a 0 0 [] (by simp) (fun j u h=>by simp at h)
theorem Je {cs:List AV}{k:Nat} : splice cs k []=cs:=by cases cs<;>rfl
theorem copy_any (st:St P G H Z w){dT sT e:TypeId}{i:TypeInfo}{tt:TypeId}{sz:Nat}(hu:P.underlying dT=some (.slice e)) (hi:P.info? e=some i) (hsz:i.size=sz)
  {id ver off n m:Nat}{cs:List AV}{dv xv:Value}(hr:RepA G Z w (.sl id ver sz off n) dv) (hc:cellsOf ver (H id)=some cs){news:List AV}(hf:FstA P G Z w sz (min m n) m xv news) (hnl:news.length=min m n*sz) (hin:(off+min m n)*sz≤cs.length) :
  ∃ w',(Builtin.copy_ #[dT,sT] tt #[dv,xv]).run P w=.ok (.int .i64 (min m n:Nat)) w'∧St P G (upd H id (ver,some (.cells (splice cs (off*sz) news)))) Z w'∧Step G Z w G Z w':=by
 subst hsz
 obtain⟨hl,us,hf,hul,hus⟩:=hf
 obtain⟨loc,hG,hob,hH⟩:=st.cells hc
 rcases hr.sl_ hG with⟨rfl,A,rfl⟩|⟨g,o',c,rfl,rfl,hnc,hcm,_⟩
 ·have h0:min m 0=0:=Nat.min_zero m
  rw[h0]at hf hnl
  have hn0:news = []:=List.eq_nil_of_length_eq_zero (by simpa using hnl)
  have hu0:us = []:=List.eq_nil_of_length_eq_zero (by rw[hul,hn0];rfl)
  subst hn0 hu0
  refine⟨w,?_,?_,Step.refl _ _ _⟩
  ·cases A<;>simp [Builtin.copy_,run_underlying hu,sizeOf,typeInfo,hi,hl,hf,storeCells,goInt]
  ·rw[Je,YQ _ _ _ hH];exact st
 ·obtain⟨arr,et,hh,hcc⟩:=hob
  have hcell:∀ j,j<us.length→(w.cell? ⟨g,o'+off*i.size+0+j,none⟩).isSome=true:=fun j hj=>by
   rw[Nat.add_zero,Nat.add_assoc,cell_of_row w g _ arr et (0,0) hh]
   rw[Nat.add_mul]at hin
   obtain⟨u,h1,_⟩:=hcc (off*i.size+j) _ (List.getElem?_eq_getElem (by omega))
   rw[h1];rfl
  have hone:∀ v∈us,v.oneCell'=true:=fun v hv=>by
   obtain⟨j,hj⟩:=List.getElem?_of_mem hv
   have hjl:=(List.getElem?_eq_some_iff.1 hj).1
   obtain⟨u,h1,h2,_⟩:=hus j _ (List.getElem?_eq_getElem (by omega))
   rw[hj]at h1;obtain rfl:=Option.some.inj h1;exact h2
  have hst:=run_storeCells_cells (P:=P) g (o'+off*i.size) us 0 w hcell (fun j hj=>by simp [World.frozen?,hh]) hone
  rw[Nat.add_zero]at hst
  obtain⟨s1,s2⟩:=st.write (off:=off*i.size) hH hG (xs:=news) (vs:=us) hul (by rw[Nat.add_mul]at hin;omega) hus
  refine⟨_,?_,s1,s2⟩
  simp [Builtin.copy_,run_underlying hu,sizeOf,typeInfo,hi,hl,hf,hst,goInt]
theorem ok_copy (st:St P G H Z w) (hρ : ∀ x,RepA G Z w (ρ x) (ρc x)) (dT sT e:TypeId) (sz:Nat) (d s:Operand) (he:elemOf? P dT=some e) (hs:sizeOf? P e=some sz)
  (hx:(eff (.copy sz d s) ρ t).exec H=some (v,H')) (c:Call) (ho:o.op=.call c) (hc:c.callee=.builtin .copy) (hargs:c.args = #[d,s]) (hat:c.argTypes = #[dT,sT]):OpOk P (execOp ρc o) G H Z w v H':=by
 have ha:=hρ d
 have hb:=hρ s
 have hu:=Qy he
 obtain⟨i,hi,hsz⟩:∃ i,P.info? e=some i∧i.size=sz:=by
  unfold sizeOf? at hs
  cases hi:P.info? e with
  | none=>rw[hi]at hs;cases hs
  | some i=>rw[hi]at hs;exact⟨i,rfl,by simpa using hs⟩
 have fin:∀ {id ver off n m:Nat}{cs news:List AV},RepA G Z w (.sl id ver sz off n) (ρc d)→cellsOf ver (H id)=some cs→FstA P G Z w sz (min m n) m (ρc s) news→news.length=min m n*sz→(off+min m n)*sz≤cs.length→
   v=.f (.int .i64 (min m n:Nat))→H'=upd H id (ver,some (.cells (splice cs (off*sz) news)))→OpOk P (execOp ρc o) G H Z w v H':=by
  rintro id ver off n m cs news h1 h2 h3 h4 h5 rfl rfl
  obtain⟨w',g1,g2,g3⟩:=copy_any (dT:=dT) (sT:=sT) (tt:=o.type) st hu hi hsz h1 h2 h3 h4 h5
  exact⟨G,Z,w',_,.inl (by simp [execOp,ho,resolve,hc,hargs,hat,invoke,builtin,g1]),g2,g3,.f (.int _ _)⟩
 simp only[eff]at hx
 split at hx
 ·rename_i id ver sz1 off n id2 ver2 sz2 off2 n2 e1 e2
  split at hx
  case isFalse=>cases hx
  rename_i hc2
  obtain⟨rfl,rfl⟩:=hc2
  rw[e1]at ha
  rw[e2]at hb
  split at hx
  ·rename_i hid
   subst hid
   obtain⟨y,h1,rfl⟩:=YC hx
   unfold copyS at h1
   split at h1
   case h_2=>cases h1
   rename_i cs hcs
   split at h1
   case isFalse=>cases h1
   rename_i hcond
   obtain⟨rfl,hin,hin2⟩:=hcond
   simp only[Option.some.injEq,Prod.mk.injEq]at h1
   obtain⟨rfl,rfl⟩:=h1
   exact fin ha hcs (fst_sl st hb hcs hin2 (Nat.min_le_left _ _)) (by rw[List.length_take,List.length_drop];rw[Nat.add_mul]at hin2;omega) hin rfl rfl
  ·obtain⟨y,h1,rfl⟩:=QAD hx
   unfold copyR at h1
   split at h1
   case h_2=>cases h1
   rename_i cs2 cs hcs2 hcs
   split at h1
   case isFalse=>cases h1
   rename_i hcond
   obtain⟨hin,hin2⟩:=hcond
   simp only[Option.some.injEq,Prod.mk.injEq]at h1
   obtain⟨rfl,rfl⟩:=h1
   exact fin ha hcs (fst_sl st hb hcs2 hin2 (Nat.min_le_left _ _)) (by rw[List.length_take,List.length_drop];rw[Nat.add_mul]at hin2;omega) hin rfl rfl
 ·rename_i id ver sz1 off n sz2 l e1 e2
  split at hx
  case isFalse=>cases hx
  rename_i hc2
  obtain⟨rfl,rfl⟩:=hc2
  rw[e1]at ha
  rw[e2]at hb
  obtain⟨y,h1,rfl⟩:=YC hx
  unfold copyN at h1
  split at h1
  case h_2=>cases h1
  rename_i cs hcs
  split at h1
  case isFalse=>cases h1
  rename_i hin
  simp only[Option.some.injEq,Prod.mk.injEq]at h1
  obtain⟨rfl,rfl⟩:=h1
  have hlen:∀ x∈l,x.length=sz2:=(QCx hb).elim fun _ h=>h.elim fun _ h=>h.2.2.2.1
  refine fin ha hcs (fst_fr hb (Nat.min_le_left _ _)) ?_ hin rfl rfl
  rw[List.length_take,List.length_map,Qn l hlen]
  have:min l.length n*sz2≤l.length*sz2:=Nat.mul_le_mul_right _ (Nat.min_le_left _ _)
  omega
 ·rename_i id ver sz1 off n e1 e2
  split at hx
  case isFalse=>cases hx
  rename_i hc2
  subst hc2
  rw[e1]at ha
  rw[e2]at hb
  obtain⟨y,h1,rfl⟩:=YC hx
  unfold copyN at h1
  split at h1
  case h_2=>cases h1
  rename_i cs hcs
  split at h1
  case isFalse=>cases h1
  rename_i hin
  simp only[Option.some.injEq,Prod.mk.injEq,List.take_nil]at h1
  obtain⟨rfl,rfl⟩:=h1
  exact fin (m:=0) ha hcs (by rw[Nat.zero_min];exact fst_nil hb) (by simp) hin rfl rfl
 ·cases hx
def Arr (R:AV→Value→Prop) (arr:Array Value) (cs:List AV):Prop:=arr.size=cs.length∧CellsR R arr 0 cs
theorem arr_zero {zv:Value}(h:zv.cells.toList.all (·.oneCell')=true):Arr (RepA G Z w) zv.cells ((zv.cells.toList.map FV.ofValue).map .f):=
 ⟨by simp,MB h⟩
theorem ME {zv:Value}{n sz:Nat}(hone:zv.cells.toList.all (·.oneCell')=true) (hzs:zv.cells.size=sz):Arr (RepA G Z w) (madeCells zv.cells (n*sz)) (Qd n (zv.cells.toList.map FV.ofValue)):=by
 have hun:∀ y∈List.replicate n (zv.cells.toList.map FV.ofValue),y.length=sz:=fun y hy=>by
  rw[List.eq_of_mem_replicate hy,List.length_map,Array.length_toList];omega
 refine⟨by rw[size_madeCells,Qd,List.length_map,Qn _ hun,List.length_replicate],fun j a ha=> ?_⟩
 unfold Qd at ha
 rw[List.getElem?_map]at ha
 obtain⟨x,hx,rfl⟩:=Option.map_eq_some_iff.1 ha
 obtain⟨k,jj,y,h3,h4,rfl,h5⟩:=YB _ hun j x hx
 have hk:=(List.getElem?_eq_some_iff.1 h3).1
 rw[List.length_replicate]at hk
 have hy:y=zv.cells.toList.map FV.ofValue:=List.eq_of_mem_replicate (List.mem_of_getElem? h3)
 subst hy
 rw[List.getElem?_map]at h4
 obtain⟨u,hu,rfl⟩:=Option.map_eq_some_iff.1 h4
 rw[Array.getElem?_toList]at hu
 refine⟨u,?_,List.all_eq_true.1 hone u (Array.mem_toList_iff.2 (Array.mem_of_getElem? hu)),.f (RepF.ofValue Z w u)⟩
 rw[Nat.zero_add]
 have hlt:k*sz+jj<n*sz:=by
  have:(k+1)*sz≤n*sz:=Nat.mul_le_mul_right _ (by omega)
  rw[Nat.add_mul]at this;omega
 unfold madeCells
 rw[Array.getElem?_map,Array.getElem?_eq_getElem (by simpa using hlt)]
 simp only[Array.getElem_range,Option.map_some,Option.some.injEq]
 have hmod:(k*sz+jj) % zv.cells.size=jj:=by
  rw[hzs,Nat.mul_comm,Nat.mul_add_mod];exact Nat.mod_eq_of_lt h5
 rw[hmod]
 obtain⟨hlt2,he2⟩:=Array.getElem?_eq_some_iff.1 hu
 rw[getElem!_pos zv.cells jj hlt2];exact he2
theorem QAQ {z:List FV} : Qd 0 z = []:=rfl
theorem ok_clear (st:St P G H Z w) (hρ : ∀ x,RepA G Z w (ρ x) (ρc x)) (ty e:TypeId) (sz:Nat) (z:List FV) (x:Operand) (he:elemOf? P ty=some e) (hs:sizeOf? P e=some sz) (hz:Ql P e=some z)
  (hx:(eff (.clear sz z x) ρ t).exec H=some (v,H')) (c:Call) (ho:o.op=.call c) (hc:c.callee=.builtin .clear) (hargs:c.args = #[x]) (hat:c.argTypes = #[ty]):OpOk P (execOp ρc o) G H Z w v H':=by
 have ha:=hρ x
 have hu:=Qy he
 obtain⟨i,zv,hi,hzv,hone,hzs,rfl⟩:=Ve hz
 have hsz:i.size=sz:=by unfold sizeOf? at hs;rw[hi]at hs;simpa using hs
 simp only[eff]at hx
 split at hx
 case h_2=>cases hx
 rename_i id ver sz1 off n e1
 split at hx
 case isFalse=>cases hx
 rename_i hs1
 subst hs1
 rw[e1]at ha
 obtain⟨y,h1,rfl⟩:=YC hx
 split at h1
 case h_2=>cases h1
 rename_i cs hcs
 split at h1
 case isFalse=>cases h1
 rename_i hin
 simp only[Option.some.injEq,Prod.mk.injEq]at h1
 obtain⟨rfl,rfl⟩:=h1
 obtain⟨loc,hG,hob,hH⟩:=st.cells hcs
 have hzl:(Qd n (zv.cells.toList.map FV.ofValue)).length=n*sz1:=by
  rw[Qd,List.length_map,Qn (sz:=sz1) _ (fun y hy=>by rw[List.eq_of_mem_replicate hy,List.length_map,Array.length_toList];omega),List.length_replicate]
 rcases ha.sl_ hG with⟨rfl,A,hv⟩|⟨g,o',c',rfl,hv,hnc,hcm,_⟩
 ·refine⟨G,Z,w,.tuple #[],.inl ?_,?_,Step.refl _ _ _,.tup _ _ rfl fun j a u h=>by simp at h⟩
  ·cases A<;>simp [execOp,ho,resolve,hc,hargs,hat,invoke,builtin,Builtin.clear_,run_underlying hu,hv]
  ·rw[QAQ,Je,YQ _ _ _ hH];exact st
 ·obtain⟨arr,et,hh,hcc⟩:=hob
  rcases Nat.eq_zero_or_pos n with h0|h0
  ·subst h0
   refine⟨G,Z,w,.tuple #[],.inl ?_,?_,Step.refl _ _ _,.tup _ _ rfl fun j a u h=>by simp at h⟩
   ·simp [execOp,ho,resolve,hc,hargs,hat,invoke,builtin,Builtin.clear_,run_underlying hu,hv]
   ·rw[QAQ,Je,YQ _ _ _ hH];exact st
  have hzc:∀ (j:Nat) (a:AV),(Qd n (zv.cells.toList.map FV.ofValue))[j]? = some a→∃ u,(Builtin.zeroCells zv.cells n).toList[j]? = some u∧u.oneCell'=true∧RepA G Z w a u:=by
   intro j a ha
   obtain⟨u,h1,h2,h3⟩:=(ME (G:=G) (Z:=Z) (w:=w) (n:=n) (sz:=sz1) hone (by omega)).2 j a ha
   have hzm:Builtin.zeroCells zv.cells n=madeCells zv.cells (n*sz1):=by
    unfold Builtin.zeroCells madeCells
    rw[show zv.cells.size=sz1 by omega]
   rw[Nat.zero_add]at h1
   exact⟨u,by rw[Array.getElem?_toList,hzm];exact h1,h2,h3⟩
  have hzlen:(Builtin.zeroCells zv.cells n).toList.length=n*sz1:=by rw[Array.length_toList,size_zeroCells,show zv.cells.size=sz1 by omega]
  have hcell:∀ j,j<(Builtin.zeroCells zv.cells n).toList.length→(w.cell? ⟨g,o'+off*sz1+0+j,none⟩).isSome=true:=fun j hj=>by
   rw[Nat.add_zero,Nat.add_assoc,cell_of_row w g _ arr et (0,0) hh]
   rw[Nat.add_mul]at hin
   obtain⟨u,h1,_⟩:=hcc (off*sz1+j) _ (List.getElem?_eq_getElem (by omega))
   rw[h1];rfl
  have hst:=run_storeCells_cells (P:=P) g (o'+off*sz1) (Builtin.zeroCells zv.cells n).toList 0 w hcell (fun j hj=>by simp [World.frozen?,hh]) (fun u hu=>by
   obtain⟨j,hj⟩:=List.getElem?_of_mem hu
   rw[Array.getElem?_toList]at hj
   exact Wj hone j u hj)
  rw[Nat.add_zero]at hst
  obtain⟨s1,s2⟩:=st.write (off:=off*sz1) hH hG (xs:=Qd n (zv.cells.toList.map FV.ofValue)) (vs:=(Builtin.zeroCells zv.cells n).toList) (by rw[hzlen,hzl]) (by rw[Nat.add_mul]at hin;omega) hzc
  refine⟨G,Z,_,.tuple #[],.inl ?_,s1,s2,.tup _ _ rfl fun j a u h=>by simp at h⟩
  obtain⟨n',rfl⟩:∃ n',n=n'+1:=⟨n - 1,by omega⟩
  simp [execOp,ho,resolve,hc,hargs,hat,invoke,builtin,Builtin.clear_,run_underlying hu,hv,zeroValue,typeInfo,hi,hzv,hst]
end

open Go.RowKit
set_option linter.unusedVariables false
set_option linter.unusedSimpArgs false

theorem QA4 {s:ByteArray} : ∀ {m:List (ByteArray × Value)},(∀ p∈m,p.1≠s)→mGet s m=none
 | [],_=>rfl
 | (k,x)::r,h=>by
  simp only[mGet]
  rw[if_neg (h (k,x) (by simp))]
  exact QA4 fun p hp=>h p (by simp [hp])
theorem NP {s:ByteArray}{x:Value} : ∀ {m:List (ByteArray × Value)},(∀ p∈m,p.1≠s)→mSet s x m=m++ [(s,x)]
 | [],_=>rfl
 | (k,y)::r,h=>by
  simp only[mSet]
  rw[if_neg (h (k,y) (by simp)),NP fun p hp=>h p (by simp [hp])];rfl
theorem mAt {s:ByteArray}{v x:Value} : ∀ {m:List (ByteArray × Value)}{j:Nat},(m.map (·.1)).Nodup→m[j]? = some (s,v)→mGet s m=some v∧mSet s x m=m.set j (s,x)
 | [],j,_,h=>by simp at h
 | (k,y)::r,0,hn,h=>by
  simp only[List.getElem?_cons_zero,Option.some.injEq,Prod.mk.injEq]at h
  obtain⟨rfl,rfl⟩:=h
  simp [mGet,mSet]
 | (k,y)::r,j+1,hn,h=>by
  simp only[List.map_cons,List.nodup_cons]at hn
  have h':r[j]? = some (s,v):=by simpa using h
  have hne:k≠s:=fun e=>hn.1 (by rw[e];exact List.mem_map.2 ⟨_,List.mem_of_getElem? h',rfl⟩)
  obtain⟨h1,h2⟩:=mAt (x:=x) hn.2 h'
  simp [mGet,mSet,hne,h1,h2]
section
variable {P:Program}{G:QM}{H:Heap}{Z:Nat→Prop}{w:World}{ρ : Operand→AV}{ρc:Operand→Value}{t:Nat}{o:Oper}{v:AV}{H':Heap}
theorem mapR_key {es:Array MapEntry}{m:List (ByteArray × Value)}(h:MapR es m):∀ x∈es.toList,MapKept.IsKey .string x.key:=fun x hx=>by
 obtain⟨j,hj⟩:=List.getElem?_of_mem hx
 rw[Array.getElem?_toList]at hj
 have hlt:=(Array.getElem?_eq_some_iff.1 hj).1
 obtain⟨e,h1,h2,_⟩:=h.2.2.2 j _ (List.getElem?_eq_getElem (by rw[← h.1];exact hlt))
 rw[hj]at h1;obtain rfl:=Option.some.inj h1
 rw[h2];trivial
theorem Ut {es:Array MapEntry}{m:List (ByteArray × Value)}(h:MapR es m) (s:ByteArray):(Instr.findNow .string (.string s) es.toList 0=some none∧∀ p∈m,p.1≠s)∨∃ j v,Instr.findNow .string (.string s) es.toList 0=some (some (j,v))∧m[j]? = some (s,v):=by
 rcases MapKept.findNow_spec (d:= .string) (k:= .string s) trivial es.toList 0 (mapR_key h)with⟨h1,h2⟩|⟨j,e,h1,h2,h3⟩
 ·refine .inl ⟨h1,fun p hp he=> ?_⟩
  obtain⟨j,hj⟩:=List.getElem?_of_mem hp
  obtain⟨e,g1,g2,_⟩:=h.2.2.2 j p hj
  exact h2 e (Array.mem_toList_iff.2 (Array.mem_of_getElem? g1)) (by rw[g2,he])
 ·rw[Array.getElem?_toList]at h2
  have hlt:=(Array.getElem?_eq_some_iff.1 h2).1
  have hj:m[j]? = some (m[j]'(by rw[← h.1];exact hlt)):=List.getElem?_eq_getElem _
  obtain⟨e',g1,g2,g3⟩:=h.2.2.2 j _ hj
  rw[h2]at g1;obtain rfl:=Option.some.inj g1
  rw[g2]at h3
  simp only[Value.string.injEq]at h3
  refine .inr ⟨j,e.val,by simpa using h1,?_⟩
  rw[hj,g3,← h3]
theorem mapR_set {es:Array MapEntry}{m:List (ByteArray × Value)}(h:MapR es m){s:ByteArray}{x v:Value}{j:Nat}(hx:x.oneCell'=true) (hj:m[j]? = some (s,v)):MapR (es.modify j fun e=>{ e with key:= .string s,val:=x }) (m.set j (s,x)):=by
 refine⟨by simp [h.1],?_,fun p hp=> ?_,fun i p hp=> ?_⟩
 ·have:(m.set j (s,x)).map (·.1)=m.map (·.1):=by
   rw[List.map_set]
   refine List.ext_getElem? fun i=> ?_
   by_cases e:j=i
   ·subst e
    have hlt:=(List.getElem?_eq_some_iff.1 hj).1
    rw[List.getElem?_set_self (by simpa using hlt),List.getElem?_map,hj];rfl
   ·rw[List.getElem?_set_ne e]
  rw[this];exact h.2.1
 ·rcases List.mem_or_eq_of_mem_set hp with h1|rfl
  ·exact h.2.2.1 p h1
  ·exact hx
 ·rw[Array.getElem?_modify]
  by_cases e:j=i
  ·subst e
   have hlt:=(List.getElem?_eq_some_iff.1 hj).1
   rw[List.getElem?_set_self hlt]at hp
   obtain rfl:=Option.some.inj hp
   obtain⟨e,g1,_⟩:=h.2.2.2 j _ hj
   exact⟨_,by rw[if_pos rfl,g1];rfl,rfl,rfl⟩
  ·rw[List.getElem?_set_ne e]at hp
   obtain⟨e',g1,g2⟩:=h.2.2.2 i p hp
   exact⟨e',by rw[if_neg e];exact g1,g2⟩
theorem mapR_push {es:Array MapEntry}{m:List (ByteArray × Value)}(h:MapR es m){s:ByteArray}{x:Value}{b:Nat}(hx:x.oneCell'=true) (hn:∀ p∈m,p.1≠s):MapR (es.push { key:= .string s,val:=x,born:=b }) (m++ [(s,x)]):=by
 refine⟨by simp [h.1],?_,fun p hp=> ?_,fun i p hp=> ?_⟩
 ·rw[List.map_append,List.nodup_append]
  refine⟨h.2.1,by simp,fun a ha b hb=> ?_⟩
  obtain⟨p,hp,rfl⟩:=List.mem_map.1 ha
  simp at hb;subst hb
  exact hn p hp
 ·rcases List.mem_append.1 hp with h1|h1
  ·exact h.2.2.1 p h1
  ·simp at h1;subst h1;exact hx
 ·rw[Array.getElem?_push]
  rcases Nat.lt_or_ge i m.length with hi|hi
  ·rw[List.getElem?_append_left hi]at hp
   obtain⟨e,g1,g2⟩:=h.2.2.2 i p hp
   exact⟨e,by rw[if_neg (by rw[h.1];omega)];exact g1,g2⟩
  ·have:i=m.length:=by
    have:=(List.getElem?_eq_some_iff.1 hp).1;simp at this;omega
   subst this
   rw[List.getElem?_append_right (Nat.le_refl _)]at hp
   simp at hp;subst hp
   exact⟨_,by rw[if_pos h.1.symm],rfl,rfl⟩
theorem QCn {es:Array MapEntry}{clock:Nat}{m:List (ByteArray × Value)}(h:MapK es clock m){s:ByteArray}{x v:Value}{j:Nat}(hx:x.oneCell'=true) (hj:m[j]? = some (s,v)):MapK (es.modify j fun e=>{ e with key:= .string s,val:=x }) clock (m.set j (s,x)):=by
 refine⟨mapR_set h.1 hx hj,by simpa using h.2.1,fun i e he=> ?_⟩
 rw[Array.getElem?_modify]at he
 by_cases e1:j=i
 ·rw[if_pos e1]at he
  obtain⟨e2,h2,rfl⟩:=Option.map_eq_some_iff.1 he
  exact h.2.2 i e2 h2
 ·rw[if_neg e1]at he
  exact h.2.2 i e he
theorem QA2 {es:Array MapEntry}{clock:Nat}{m:List (ByteArray × Value)}(h:MapK es clock m){s:ByteArray}{x:Value}(hx:x.oneCell'=true) (hn:∀ p∈m,p.1≠s):MapK (es.push { key:= .string s,val:=x,born:=clock }) (clock+1) (m++ [(s,x)]):=by
 refine⟨mapR_push h.1 hx hn,by simpa using h.2.1,fun i e he=> ?_⟩
 rw[Array.getElem?_push]at he
 split at he
 ·rename_i e1
  obtain rfl:=Option.some.inj he
  rw[e1];exact h.2.1
 ·exact h.2.2 i e he
theorem ZV {ty kt et:TypeId}(h:mapOf? P ty=some (kt,et)):P.underlying ty=some (.map kt et)∧P.underlying kt=some .string:=by
 unfold mapOf? at h
 split at h
 ·rename_i k e hu
  split at h
  ·rename_i hk
   simp only[Option.some.injEq,Prod.mk.injEq]at h
   obtain⟨rfl,rfl⟩:=h
   refine⟨hu,?_⟩
   unfold Wy at hk
   split at hk
   ·assumption
   ·cases hk
  ·cases h
 ·cases h
theorem RepA.fm_ {m:List (ByteArray × Value)}{u:Value}(h:RepA G Z w (.f (.fm m)) u):∃ g,u=.map (some g)∧∃ es clock,w.heap[g]? = some (.map es clock)∧MapR es m:=by
 cases h.f_ with
 | fm _ g hz hb=>exact⟨g,rfl,hb⟩
theorem RepA.map_ {id ver:Nat}{loc:Option (Nat × Nat)}{u:Value}(h:RepA G Z w (.map id ver) u) (e:G id=(ver,some loc)):∃ g o,loc=some (g,o)∧u=.map (some g):=by
 cases h with
 | mapOld _ _ _ h1 h2 h3=>rw[e]at h2;exact absurd (h2 rfl) (by simp)
 | mapLive _ _ g o h1=>
  rw[e]at h1
  simp only[Prod.mk.injEq,Option.some.injEq,true_and]at h1
  exact⟨g,o,h1,rfl⟩
theorem St.maps (st:St P G H Z w){id ver:Nat}{m:List (ByteArray × Value)}(h:JE ver (H id)=some m):∃ g,G id=(ver,some (some (g,0)))∧H id=(ver,some (.map m))∧∃ es clock,w.heap[g]? = some (.map es clock)∧MapK es clock m:=by
 unfold JE at h
 have h1:=st.ver id
 split at h
 ·rename_i v m' e
  split at h
  ·rename_i hv
   obtain rfl:=Option.some.inj h
   obtain⟨loc,h2,h3⟩:=st.obj id _ (by rw[e])
   subst hv
   cases loc with
   | none=>exact h3.elim
   | some p=>
    obtain⟨g,ob⟩:=p
    obtain⟨rfl,h4⟩:=h3
    rw[e]at h1
    exact⟨g,Prod.ext h1 h2,e,h4⟩
  ·cases h
 ·cases h
def CL (R:AV→Value→Prop):List Value→List AV→Prop
 | [],[]=>True
 | v::L,a::r=>(v.oneCell'=true∧R a v)∧CL R L r
 | _,_=>False
theorem CL.len {R:AV→Value→Prop} : ∀ {L:List Value}{cs:List AV},CL R L cs→cs.length=L.length
 | [],[],_=>rfl
 | _::_,_::_,h=>congrArg (·+1) (CL.len h.2)
theorem CL.at_ {R:AV→Value→Prop} : ∀ {L:List Value}{cs:List AV},CL R L cs→∀ (j:Nat) a,cs[j]? = some a→∃ v,L[j]? = some v∧v.oneCell'=true∧R a v
 | [],[],_,j,a,h=>by cases h
 | v::L,b::cs,h,0,a,ha=>by obtain rfl:=Option.some.inj ha;exact⟨v,rfl,h.1.1,h.1.2⟩
 | v::L,b::cs,h,j+1,a,ha=>CL.at_ h.2 j a ha
theorem CL.of {R:AV→Value→Prop} : ∀ {L:List Value}{cs:List AV},cs.length=L.length→(∀ (j:Nat) a,cs[j]? = some a→∃ v,L[j]? = some v∧v.oneCell'=true∧R a v)→CL R L cs
 | [],[],_,_=>trivial
 | v::L,b::cs,hl,h=>by
  obtain⟨u,h1,h2,h3⟩:=h 0 b rfl
  obtain rfl:=Option.some.inj h1
  exact⟨⟨h2,h3⟩,CL.of (by simpa using hl) fun j a ha=>h (j+1) a ha⟩
 | [],_::_,hl,_=>by simp at hl
 | _::_,[],hl,_=>by simp at hl
def WO (m:List (ByteArray × Value)):List Value:=m.flatMap fun p=>[.string p.1,p.2]
theorem XA {p:ByteArray × Value}{m:List (ByteArray × Value)} : WO (p::m)=.string p.1::p.2::WO m:=rfl
theorem QAV {R:AV→Value→Prop}(hs:∀ k v,R (.f (.str k)) v→v=.string k){s:ByteArray} : ∀ {m:List (ByteArray × Value)}{cs:List AV}{b:Bool},CL R (WO m) cs→tGet s cs=some b→(b=true↔∃ p∈m,p.1=s)
 | [],[],b,_,h=>by
  obtain rfl:=Option.some.inj h
  simp
 | p::m,a0::a1::r,b,hc,h=>by
  rw[XA]at hc
  obtain⟨⟨_,h0⟩,_,hr⟩:=hc
  unfold tGet at h
  split at h
  ·rename_i heq;simp at heq
  ·rename_i k b' r' heq
   simp only[List.cons.injEq]at heq
   obtain⟨rfl,rfl,rfl⟩:=heq
   have hk:=hs _ _ h0
   simp only[Value.string.injEq]at hk
   split at h
   ·rename_i e
    obtain rfl:=Option.some.inj h
    simp only[true_iff]
    exact⟨p,List.mem_cons_self,hk.trans e⟩
   ·rename_i e
    rw[QAV hs hr h]
    constructor
    ·rintro⟨q,hq,he⟩;exact⟨q,List.mem_cons_of_mem _ hq,he⟩
    ·rintro⟨q,hq,he⟩
     rcases List.mem_cons.1 hq with rfl|hq
     ·exact absurd (hk.symm.trans he) e
     ·exact⟨q,hq,he⟩
  ·cases h
 | p::m,[],b,hc,h=>by rw[XA]at hc;exact hc.elim
 | p::m,[a],b,hc,h=>by rw[XA]at hc;exact hc.2.elim
 | [],a::r,b,hc,h=>hc.elim
theorem QAT {R:AV→Value→Prop}(hs:∀ k v,R (.f (.str k)) v→v=.string k) (hR:∀ k,R (.f (.str k)) (.string k)){s:ByteArray}{y:FV}{x:Value}(hx:x.oneCell'=true) (hyx:R (.f y) x):∀ {m:List (ByteArray × Value)}{cs cs':List AV},CL R (WO m) cs→tSet s y cs=some cs'→CL R (WO (mSet s x m)) cs'
 | [],[],cs',_,h=>by
  obtain rfl:=Option.some.inj h
  exact⟨⟨rfl,hR s⟩,⟨hx,hyx⟩,trivial⟩
 | p::m,a0::a1::r,cs',hc,h=>by
  rw[XA]at hc
  obtain⟨⟨g0,h0⟩,⟨g1,h1⟩,hr⟩:=hc
  obtain⟨pk,pv⟩:=p
  unfold tSet at h
  split at h
  ·rename_i heq;simp at heq
  ·rename_i k b' r' heq
   simp only[List.cons.injEq]at heq
   obtain⟨rfl,rfl,rfl⟩:=heq
   have hk:=hs _ _ h0
   simp only[Value.string.injEq]at hk
   subst hk
   unfold mSet
   split at h
   ·rename_i e
    obtain rfl:=Option.some.inj h
    rw[if_pos e]
    exact⟨⟨g0,h0⟩,⟨hx,hyx⟩,hr⟩
   ·rename_i e
    rw[if_neg e]
    obtain⟨r2,h2,rfl⟩:=Option.map_eq_some_iff.1 h
    exact⟨⟨g0,h0⟩,⟨g1,h1⟩,QAT hs hR hx hyx hr h2⟩
  ·cases h
 | p::m,[],_,hc,h=>by rw[XA]at hc;exact hc.elim
 | p::m,[a],_,hc,h=>by rw[XA]at hc;exact hc.2.elim
 | [],a::r,_,hc,h=>hc.elim
theorem St.tys (st:St P G H Z w){id ver:Nat}{cs:List AV}(h:Uh ver (H id)=some cs):∃ g,G id=(ver,some (some (g,0)))∧H id=(ver,some (.ty cs ZD))∧∃ es clock m,w.heap[g]? = some (.map es clock)∧MapK es clock m∧CL (RepA G Z w) (WO m) cs:=by
 unfold Uh at h
 have h1:=st.ver id
 split at h
 ·rename_i v cs' t e
  split at h
  ·rename_i hv
   obtain⟨hv,rfl⟩:=hv
   obtain rfl:=Option.some.inj h
   obtain⟨loc,h2,h3⟩:=st.obj id _ (by rw[e])
   subst hv
   cases loc with
   | none=>exact h3.elim
   | some p=>
    obtain⟨g,ob⟩:=p
    obtain⟨rfl,arr,h4,h5⟩:=h3
    rw[e]at h1
    unfold TyO at h4
    rw[if_pos rfl]at h4
    obtain⟨es,clock,m,k1,k2,rfl,k4⟩:=h4
    refine⟨g,Prod.ext h1 h2,e,es,clock,m,k1,k2,CL.of (by rw[k4];simp [Wp,WO]) fun j a ha=> ?_⟩
    obtain⟨v,q1,q2,q3⟩:=h5 j a ha
    refine⟨v,?_,q2,q3⟩
    rw[Nat.zero_add]at q1
    simpa [Wp,WO]using q1
  ·cases h
 ·cases h
theorem ok_mkMap (st:St P G H Z w) (ty:TypeId) (hx:(eff .mkMap ρ t).exec H=some (v,H')) (ho:o.op=.makeMap ty none):OpOk P (execOp ρc o) G H Z w v H':=by
 simp only[eff]at hx
 obtain⟨y,h1,rfl⟩:=YC hx
 split at h1
 case h_2=>cases h1
 rename_i ver hd
 simp only[Option.some.injEq,Prod.mk.injEq]at h1
 obtain⟨rfl,rfl⟩:=h1
 have hO:Only w.heap.size w (w.alloc (.map #[] 0)):=Only.alloc w _
 obtain⟨s1,s2⟩:=st.change t w.heap.size hO (ver+1,some (some (w.heap.size,0))) (ver+1,some (.map [])) (.inl rfl) (.inl (by simp)) rfl (by rw[hd];simp) (fun h=>by rw[hd]at h;simp at h) (.inr (.inr ⟨0,rfl⟩))
  (fun _ arr e fz h=>by rw[heap_alloc_new w _]at h;cases h) (fun h=>by cases h) (fun ob hob=>⟨_,rfl,fun hk=>by
    obtain rfl:=Option.some.inj hob
    exact⟨rfl,#[],0,heap_alloc_new w _,⟨rfl,List.nodup_nil,fun p hp=>by simp at hp,fun i p hp=>by simp at hp⟩,rfl,fun i e he=>by simp at he⟩⟩)
 refine⟨_,Z,_,.map (some w.heap.size),.inl ?_,s1,s2,.mapLive _ _ _ 0 (by simp)⟩
 simp [execOp,ho,run_makeMap]
theorem QAo {a:AV}{x u:Value}(h:a.plainVal=some x) (hr:RepA G Z w a u):u=x∧x.oneCell'=true:=by
 unfold AV.plainVal at h
 split at h
 ·obtain rfl:=Option.some.inj h;exact⟨hr.int_,rfl⟩
 ·obtain rfl:=Option.some.inj h;exact⟨hr.bool_,rfl⟩
 ·obtain rfl:=Option.some.inj h;exact⟨hr.str_,rfl⟩
 ·cases h
theorem ok_mapUpd (st:St P G H Z w) (hρ : ∀ x,RepA G Z w (ρ x) (ρc x)) (ty kt et:TypeId) (m k x:Operand) (ht:mapOf? P ty=some (kt,et)) (hx:(eff (.mapUpd m k x) ρ t).exec H=some (v,H')) (ho:o.op=.mapUpdate ty m k x):OpOk P (execOp ρc o) G H Z w v H':=by
 have hm:=hρ m
 have hk:=hρ k
 have hv:=hρ x
 obtain⟨hu,hkt⟩:=ZV ht
 simp only[eff]at hx
 split at hx
 case h_3=>cases hx
 case h_2=>
  rename_i id ver s e1 e2 e3
  rw[e1]at hm
  rw[e2]at hk
  unfold Js at hx
  split at hx
  case h_2=>cases hx
  rename_i yv ey
  split at hx
  case isFalse=>cases hx
  rename_i hy1
  rw[ey]at hv
  obtain⟨y,h1,rfl⟩:=YC hx
  split at h1
  case h_2=>cases h1
  rename_i cs hcs
  split at h1
  case h_2=>cases h1
  rename_i cs' hcs'
  simp only[Option.some.injEq,Prod.mk.injEq]at h1
  obtain⟨rfl,rfl⟩:=h1
  obtain⟨g,hG,hH,es,clock,mm,hb,hK,hCL⟩:=st.tys hcs
  have hR:=hK.1
  obtain⟨g',ob,hloc,hmv⟩:=hm.map_ hG
  simp only[Option.some.injEq,Prod.mk.injEq]at hloc
  obtain⟨rfl,rfl⟩:=hloc
  have hks:=hk.str_
  have hone:=hv.f_.one_ hy1
  generalize hxv : ρc x=xv at*
  have hlt:=VK hb
  have hGs:upd G id (ver,some (some (g,0)))=G:=YQ _ _ _ hG
  have hCL2:=QAT (R:=RepA G Z w) (fun k v h=>h.str_) (fun k=> .f (.str k)) hone hv hCL hcs'
  have fin:∀ (es':Array MapEntry) (clock':Nat),MapK es' clock' (mSet s xv mm)→(Instr.mapUpdate ty (ρc m) (ρc k) xv).run P w=.ok () { w with heap:=w.heap.setIfInBounds g (.map es' clock') }→OpOk P (execOp ρc o) G H Z w .any (upd H id (ver,some (.ty cs' ZD))):=by
   intro es' clock' hR' hrun
   obtain⟨q1,q2⟩:=MapKept.heap_set (o':= .map es' clock') hb
   have hO:Only g w { w with heap:=w.heap.setIfInBounds g (.map es' clock') }:=⟨rfl,rfl,rfl,by simp,fun b _ hne=>q2 b hne,fun arr e fz h=>by rw[hb]at h;cases h⟩
   obtain⟨s1,s2⟩:=st.change id g hO (ver,some (some (g,0))) (ver,some (.ty cs' ZD)) (.inr ⟨0,by rw[hG]⟩) (.inl (by simpa using hlt)) rfl (by rw[hH];exact Nat.le_refl _) (fun _=> .inr (by rw[hG])) (.inr (.inr ⟨0,rfl⟩))
    (fun _ arr e fz h=>by
      have h':(w.heap.setIfInBounds g (.map es' clock'))[g]? = some (.cells arr e fz):=h
      rw[q1]at h';cases h') (fun h=>by cases h) (fun ob hob=>⟨_,rfl,fun hk=>by
      obtain rfl:=Option.some.inj hob
      refine⟨rfl,Wp (mSet s xv mm),?_,fun j a ha=> ?_⟩
      ·unfold TyO
       rw[if_pos rfl]
       exact⟨es',clock',_,q1,hR',rfl,by rw[hCL2.len];simp [Wp,WO]⟩
      ·obtain⟨v,k1,k2,k3⟩:=hCL2.at_ j a ha
       refine⟨v,?_,k2,k3.keep hk⟩
       rw[Nat.zero_add]
       simpa [Wp,WO]using k1⟩)
   rw[hGs]at s1 s2
   refine⟨G,Z,_,undef,.inr ⟨?_,rfl⟩,s1,s2,.any _⟩
   simp [execOp,ho,hxv,hrun]
  have hkey:=MapKept.run_checkKey (P:=P) (w:=w) (k:= .string s) hkt trivial false 9999
  rcases Ut hR s with⟨f1,f2⟩|⟨j,vv,f1,f2⟩
  ·refine fin (es.push { key:= .string s,val:=xv,born:=clock }) (clock+1) (by rw[NP f2];exact QA2 hK hone f2) ?_
   have hfind:=MapKept.run_findKey (P:=P) (w:=w) hkt f1
   have hset:=MapKept.run_setObj_map (P:=P) (.map (es.push { key:= .string s,val:=xv,born:=clock }) (clock+1)) hb
   rw[hmv,hks]
   simp [Instr.mapUpdate,run_underlying hu,MapKept.run_getObj_map hb,hkey,hfind,hset]
  ·obtain⟨g1,g2⟩:=mAt (x:=xv) hR.2.1 f2
   refine fin (es.modify j fun e=>{ e with key:= .string s,val:=xv }) clock (by rw[g2];exact QCn hK hone f2) ?_
   have hfind:=MapKept.run_findKey (P:=P) (w:=w) hkt f1
   have hset:=MapKept.run_setObj_map (P:=P) (.map (es.modify j fun e=>{ e with key:= .string s,val:=xv }) clock) hb
   obtain⟨ee,k1,k2,_⟩:=hR.2.2.2 j _ f2
   have hstay:(Instr.keyThatStays (((es[j]?).map (·.key)).getD (.string s)) (.string s)).run P w=.ok (.string s) w:=by
    rw[k1]
    simp only[Option.map_some,Option.getD_some,k2]
    unfold Instr.keyThatStays
    rw[if_pos (by simp [Instr.sameBits];exact(MapKept.bytes_beq s s).2 rfl)];rfl
   rw[hmv,hks]
   simp [Instr.mapUpdate,run_underlying hu,MapKept.run_getObj_map hb,hkey,hfind,hstay,hset]
 rename_i id ver s xv e1 e2 e3
 rw[e1]at hm
 rw[e2]at hk
 obtain⟨y,h1,rfl⟩:=YC hx
 split at h1
 case h_2=>cases h1
 rename_i mm hmm
 simp only[Option.some.injEq,Prod.mk.injEq]at h1
 obtain⟨rfl,rfl⟩:=h1
 obtain⟨g,hG,hH,es,clock,hb,hK⟩:=st.maps hmm
 have hR:=hK.1
 obtain⟨g',ob,hloc,hmv⟩:=hm.map_ hG
 simp only[Option.some.injEq,Prod.mk.injEq]at hloc
 obtain⟨rfl,rfl⟩:=hloc
 have hks:=hk.str_
 obtain⟨hvx,hone⟩:=QAo e3 hv
 have hlt:=VK hb
 have hGs:upd G id (ver,some (some (g,0)))=G:=YQ _ _ _ hG
 have fin:∀ (es':Array MapEntry) (clock':Nat),MapK es' clock' (mSet s xv mm)→(Instr.mapUpdate ty (ρc m) (ρc k) (ρc x)).run P w=.ok () { w with heap:=w.heap.setIfInBounds g (.map es' clock') }→OpOk P (execOp ρc o) G H Z w .any (upd H id (ver,some (.map (mSet s xv mm)))):=by
  intro es' clock' hR' hrun
  obtain⟨q1,q2⟩:=MapKept.heap_set (o':= .map es' clock') hb
  have hO:Only g w { w with heap:=w.heap.setIfInBounds g (.map es' clock') }:=⟨rfl,rfl,rfl,by simp,fun b _ hne=>q2 b hne,fun arr e fz h=>by rw[hb]at h;cases h⟩
  obtain⟨s1,s2⟩:=st.change id g hO (ver,some (some (g,0))) (ver,some (.map (mSet s xv mm))) (.inr ⟨0,by rw[hG]⟩) (.inl (by simpa using hlt)) rfl (by rw[hH];exact Nat.le_refl _) (fun _=> .inr (by rw[hG])) (.inr (.inr ⟨0,rfl⟩))
   (fun _ arr e fz h=>by
     have h':(w.heap.setIfInBounds g (.map es' clock'))[g]? = some (.cells arr e fz):=h
     rw[q1]at h';cases h') (fun h=>by cases h) (fun ob hob=>⟨_,rfl,fun hk=>by
     obtain rfl:=Option.some.inj hob
     exact⟨rfl,es',clock',q1,hR'⟩⟩)
  rw[hGs]at s1 s2
  refine⟨G,Z,_,undef,.inr ⟨?_,rfl⟩,s1,s2,.any _⟩
  simp [execOp,ho,hrun]
 have hkey:=MapKept.run_checkKey (P:=P) (w:=w) (k:= .string s) hkt trivial false 9999
 rcases Ut hR s with⟨f1,f2⟩|⟨j,vv,f1,f2⟩
 ·refine fin (es.push { key:= .string s,val:=xv,born:=clock }) (clock+1) (by rw[NP f2];exact QA2 hK hone f2) ?_
  have hfind:=MapKept.run_findKey (P:=P) (w:=w) hkt f1
  have hset:=MapKept.run_setObj_map (P:=P) (.map (es.push { key:= .string s,val:=xv,born:=clock }) (clock+1)) hb
  rw[hmv,hks,hvx]
  simp [Instr.mapUpdate,run_underlying hu,MapKept.run_getObj_map hb,hkey,hfind,hset]
 ·obtain⟨g1,g2⟩:=mAt (x:=xv) hR.2.1 f2
  refine fin (es.modify j fun e=>{ e with key:= .string s,val:=xv }) clock (by rw[g2];exact QCn hK hone f2) ?_
  have hfind:=MapKept.run_findKey (P:=P) (w:=w) hkt f1
  have hset:=MapKept.run_setObj_map (P:=P) (.map (es.modify j fun e=>{ e with key:= .string s,val:=xv }) clock) hb
  obtain⟨ee,k1,k2,_⟩:=hR.2.2.2 j _ f2
  have hstay:(Instr.keyThatStays (((es[j]?).map (·.key)).getD (.string s)) (.string s)).run P w=.ok (.string s) w:=by
   rw[k1]
   simp only[Option.map_some,Option.getD_some,k2]
   unfold Instr.keyThatStays
   rw[if_pos (by simp [Instr.sameBits];exact(MapKept.bytes_beq s s).2 rfl)];rfl
  rw[hmv,hks,hvx]
  simp [Instr.mapUpdate,run_underlying hu,MapKept.run_getObj_map hb,hkey,hfind,hstay,hset]
theorem ok_lookup (st:St P G H Z w) (hρ : ∀ x,RepA G Z w (ρ x) (ρc x)) (ty kt et:TypeId) (i:TypeInfo) (z:Value) (ok:Bool) (m k:Operand) (ht:mapOf? P ty=some (kt,et)) (hi:P.info? et=some i) (hz:i.zero=some z) (hx:(eff (.lookup z ok m k) ρ t).exec H=some (v,H')) (ho:o.op=.lookup ty m k ok):OpOk P (execOp ρc o) G H Z w v H':=by
 have hm:=hρ m
 have hk:=hρ k
 obtain⟨hu,hkt⟩:=ZV ht
 have core:∀ (g:Nat) (mm:List (ByteArray × Value)) (s:ByteArray),ρc m=.map (some g)→ρc k=.string s→(∃ es clock,w.heap[g]? = some (.map es clock)∧MapR es mm)→OpOk P (execOp ρc o) G H Z w (lookV z ok (mGet s mm)) H:=by
  rintro g mm s hmv hks ⟨es,clock,hb,hR⟩
  have hkey:=MapKept.run_checkKey (P:=P) (w:=w) (k:= .string s) hkt trivial es.isEmpty 9999
  have hzr:(zeroValue et).run P w=.ok z w:=by simp [zeroValue,typeInfo,hi,hz]
  rcases Ut hR s with⟨f1,f2⟩|⟨j,vv,f1,f2⟩
  ·have hfind:=MapKept.run_findKey (P:=P) (w:=w) hkt f1
   rw[QA4 f2]
   refine OpOk.pure st (u:=if ok then .tuple #[z,.bool false]else z) ?_ ?_
   ·cases ok<;>simp [execOp,ho,hmv,hks,Instr.lookup,run_underlying hu,MapKept.run_getObj_map hb,hkey,hfind,hzr]
   ·cases ok
    ·exact .f (RepF.ofValue Z w z)
    ·refine .tup _ _ rfl fun j a u ha hu=> ?_
     rcases j with _|_|j
     ·obtain rfl:=Option.some.inj ha;obtain rfl:=Option.some.inj hu;exact .f (RepF.ofValue Z w z)
     ·obtain rfl:=Option.some.inj ha;obtain rfl:=Option.some.inj hu;exact .f (.bool _)
     ·simp [lookV]at ha
  ·have hfind:=MapKept.run_findKey (P:=P) (w:=w) hkt f1
   rw[(mAt (x:=z) hR.2.1 f2).1]
   refine OpOk.pure st (u:=if ok then .tuple #[vv,.bool true]else vv) ?_ ?_
   ·cases ok<;>simp [execOp,ho,hmv,hks,Instr.lookup,run_underlying hu,MapKept.run_getObj_map hb,hkey,hfind]
   ·cases ok
    ·exact .f (RepF.ofValue Z w vv)
    ·refine .tup _ _ rfl fun j a u ha hu=> ?_
     rcases j with _|_|j
     ·obtain rfl:=Option.some.inj ha;obtain rfl:=Option.some.inj hu;exact .f (RepF.ofValue Z w vv)
     ·obtain rfl:=Option.some.inj ha;obtain rfl:=Option.some.inj hu;exact .f (.bool _)
     ·simp [lookV]at ha
 simp only[eff]at hx
 split at hx
 ·rename_i id ver s e1 e2
  rw[e1]at hm
  rw[e2]at hk
  obtain⟨h1,rfl⟩:=YN hx
  split at h1
  case h_2=>
   unfold lookT at h1
   split at h1
   case isFalse=>cases h1
   rename_i hok
   subst hok
   split at h1
   case h_2=>cases h1
   rename_i cs hcs
   split at h1
   case h_2=>cases h1
   rename_i b hget
   obtain rfl:=Option.some.inj h1
   obtain⟨g,hG,hH,es,clock,mm,hb,hK,hCL⟩:=st.tys hcs
   have hR:=hK.1
   obtain⟨g',ob,hloc,hmv⟩:=hm.map_ hG
   simp only[Option.some.injEq,Prod.mk.injEq]at hloc
   obtain⟨rfl,rfl⟩:=hloc
   have hks:=hk.str_
   have hsp:=QAV (R:=RepA G Z w) (fun k v h=>h.str_) hCL hget
   have hkey:=MapKept.run_checkKey (P:=P) (w:=w) (k:= .string s) hkt trivial es.isEmpty 9999
   have hzr:(zeroValue et).run P w=.ok z w:=by simp [zeroValue,typeInfo,hi,hz]
   rcases Ut hR s with⟨f1,f2⟩|⟨j,vv,f1,f2⟩
   ·have hfind:=MapKept.run_findKey (P:=P) (w:=w) hkt f1
    obtain rfl:b=false:=by
     cases b with
     | false=>rfl
     | true=>obtain⟨p,hp,e⟩:=hsp.1 rfl;exact absurd e (f2 p hp)
    refine OpOk.pure st (u:= .tuple #[z,.bool false]) ?_ ?_
    ·simp [execOp,ho,hmv,hks,Instr.lookup,run_underlying hu,MapKept.run_getObj_map hb,hkey,hfind,hzr]
    ·refine .tup _ _ rfl fun j a u ha hu=> ?_
     rcases j with _|_|j
     ·obtain rfl:=Option.some.inj ha;exact .any _
     ·obtain rfl:=Option.some.inj ha;obtain rfl:=Option.some.inj hu;exact .f (.bool _)
     ·simp at ha
   ·have hfind:=MapKept.run_findKey (P:=P) (w:=w) hkt f1
    obtain rfl:b=true:=hsp.2 ⟨_,List.mem_of_getElem? f2,rfl⟩
    refine OpOk.pure st (u:= .tuple #[vv,.bool true]) ?_ ?_
    ·simp [execOp,ho,hmv,hks,Instr.lookup,run_underlying hu,MapKept.run_getObj_map hb,hkey,hfind]
    ·refine .tup _ _ rfl fun j a u ha hu=> ?_
     rcases j with _|_|j
     ·obtain rfl:=Option.some.inj ha;exact .any _
     ·obtain rfl:=Option.some.inj ha;obtain rfl:=Option.some.inj hu;exact .f (.bool _)
     ·simp at ha
  rename_i mm hmm
  obtain rfl:=Option.some.inj h1
  obtain⟨g,hG,hH,hb⟩:=st.maps hmm
  obtain⟨g',ob,hloc,hmv⟩:=hm.map_ hG
  simp only[Option.some.injEq,Prod.mk.injEq]at hloc
  obtain⟨rfl,rfl⟩:=hloc
  exact core g mm s hmv hk.str_ (let ⟨es,c,h1,h2⟩:=hb;⟨es,c,h1,h2.1⟩)
 ·rename_i mm s e1 e2
  rw[e1]at hm
  rw[e2]at hk
  obtain⟨rfl,rfl⟩:=QN hx
  obtain⟨g,hmv,hb⟩:=hm.fm_
  exact core g mm s hmv hk.str_ hb
 ·cases hx
end

open Go.RowKit
set_option linter.unusedVariables false
set_option linter.unusedSimpArgs false

theorem Mp (l:List UInt8):Mq (l.map encU).flatten=some l:=by
 induction l with
 | nil=>rfl
 | cons b l ih=>
  rw[List.map_cons,List.flatten_cons]
  show(match byteV (.int .u8 b.toNat),Mq (l.map encU).flatten with
   | some b,some r=>some (b::r)
   | _,_=>none)=_
  rw[ih]
  simp [byteV]
theorem bytesFr_enc (l:List UInt8):QCE (l.map encU)=some l:=Mp l
theorem QAJ:∀ l:List FV,Jc (l.map .f)=Mq l
 | []=>rfl
 | x::l=>by
  rw[List.map_cons,Jc,Mq,QAJ l]
theorem QDp (l:List UInt8):Jc ((l.map encU).flatten.map .f)=some l:=by rw[QAJ,Mp]
section
variable {P:Program}{G:QM}{H:Heap}{Z:Nat→Prop}{w:World}{ρ : Operand→AV}{ρc:Operand→Value}{t:Nat}{o:Oper}{v:AV}{H':Heap}
theorem Ub {ty:TypeId}(h:Np P ty=true):∃ e,P.underlying ty=some (.slice e)∧P.underlying e=some (.int .u8):=by
 unfold Np at h
 split at h
 ·rename_i e he
  refine⟨e,Qy he,?_⟩
  have h1:intKindOf? P e=some .u8:=by simpa using h
  unfold intKindOf? at h1
  split at h1
  ·rename_i k hk;obtain rfl:=Option.some.inj h1;exact hk
  ·cases h1
 ·cases h
theorem Mo:∀ (cs:List AV) (us:List Value) (l:List UInt8),Jc cs=some l→us.length=cs.length→(∀ (i:Nat) (a:AV),cs[i]? = some a→∃ u,us[i]? = some u∧RepA G Z w a u)→∃ ns:List Int,us=ns.map (Value.int .u8)∧(ns.map fun n=>UInt8.ofNat n.toNat)=l
 | [],us,l,h,hl,_=>by
  obtain rfl:=Option.some.inj h
  have:us = []:=List.eq_nil_of_length_eq_zero hl
  exact⟨[],by simp [this],rfl⟩
 | a::cs,us,l,h,hl,hr=>by
  cases us with
  | nil=>simp at hl
  | cons u us=>
   cases a<;>try (simp [Jc]at h;done)
   rename_i x
   rw[Jc]at h
   split at h
   case h_2=>cases h
   rename_i b r h1 h2
   obtain rfl:=Option.some.inj h
   obtain⟨ns,g1,g2⟩:=Mo cs us r h2 (by simpa using hl) (fun i a ha=>hr (i+1) a (by simpa using ha))
   unfold byteV at h1
   split at h1
   case h_2=>cases h1
   rename_i n
   obtain rfl:=Option.some.inj h1
   obtain⟨u',g3,g4⟩:=hr 0 _ rfl
   obtain rfl:u=u':=by simpa using g3
   exact⟨n::ns,by rw[List.map_cons,← g1,g4.int_],by rw[List.map_cons,g2]⟩
theorem Mj:∀ (ns:List Int) (s:ByteArray),ns.foldl (fun r n=>r.push (UInt8.ofNat n.toNat)) s=⟨s.data++(ns.map fun n=>UInt8.ofNat n.toNat).toArray⟩
 | [],s=>by simp
 | n::ns,s=>by
  rw[List.foldl_cons,Mj ns]
  simp [ByteArray.push]
theorem UP (A:Option Addr) (c:Nat):(Conv.bytesToString (.slice A 0 c)).run P w=.ok (.string ⟨#[]⟩) w:=by
 cases A with
 | none=>simp [Conv.bytesToString,Sem.run_pure];rfl
 | some a=>exact run_bytesToString w a 0 c [] (run_loadCells_list w a [] (fun j v h=>by simp at h))
theorem run_b2s (A:Option Addr) (c:Nat){k:Nat}{cs:List AV}{l:List UInt8}(hk:k=cs.length) (hw:0<k→∃ b o,A=some ⟨b,o,none⟩∧Wnd (RepA G Z w) w b o cs) (hb:Jc cs=some l):(Conv.bytesToString (.slice A k c)).run P w=.ok (.string ⟨l.toArray⟩) w:=by
 rcases Nat.eq_zero_or_pos k with h0|h0
 ·have:cs = []:=List.eq_nil_of_length_eq_zero (by omega)
  subst this
  obtain rfl:=Option.some.inj hb
  rw[h0]
  exact UP A c
 ·obtain⟨b,o,rfl,hw2⟩:=hw h0
  obtain⟨us,h3,h4,h5,h6⟩:=hw2.list
  obtain⟨ns,g1,g2⟩:=Mo (G:=G) (Z:=Z) (w:=w) cs us l hb h3 (fun i a ha=>by obtain⟨u,e1,_,e2⟩:=h6 i a ha;exact⟨u,e1,e2⟩)
  have h7:=run_bytesToString (P:=P) w ⟨b,o,none⟩ us.length c ns (by
   rw[g1,List.length_map]
   have:=run_loadCells_list (P:=P) (w:=w) ⟨b,o,none⟩ (ns.map (Value.int .u8)) (fun j v hj=>by rw[← g1]at hj;rw[Addr.add_mid];exact h4 j v hj)
   simpa using this)
  rw[h3,← hk]at h7
  rw[h7,Mj,g2]
  simp
theorem QBw (st:St P G H Z w) (hρ : ∀ x,RepA G Z w (ρ x) (ρc x)) (src dst e:TypeId) (x:Operand) (hs:P.underlying src=some (.slice e)) (he:P.underlying e=some (.int .u8)) (hd:P.underlying dst=some .string) (hx:(eff (.bytesStr x) ρ t).exec H=some (v,H')) (ho:o.op=.convert src dst x):OpOk P (execOp ρc o) G H Z w v H':=by
 have ha:=hρ x
 have fin:∀ (A:Option Addr) (k c:Nat) (l:List UInt8),ρc x=.slice A k c→(Conv.bytesToString (.slice A k c)).run P w=.ok (.string ⟨l.toArray⟩) w→OpOk P (execOp ρc o) G H Z w (.f (.str ⟨l.toArray⟩)) H:=fun A k c l h1 h2=>by
  refine OpOk.pure st (u:= .string ⟨l.toArray⟩) ?_ (.f (.str _))
  have h3:=run_convert_bytes_string (P:=P) w src dst e A k c hs he hd
  simp [execOp,ho,h1,h3,h2]
 simp only[eff]at hx
 split at hx
 ·rename_i e1
  rw[e1]at ha
  obtain⟨rfl,rfl⟩:=QN hx
  obtain⟨A,hv⟩:=ha.nil_
  exact fin A 0 0 [] hv (UP A 0)
 ·rename_i sz l e1
  rw[e1]at ha
  split at hx
  case isFalse=>cases hx
  rename_i hsz
  subst hsz
  split at hx
  case h_2=>cases hx
  rename_i s hs2
  obtain⟨rfl,rfl⟩:=QN hx
  obtain⟨A,c,hv,h1,h2,hlen,hw⟩:=QCx ha
  refine fin A l.length c s hv (run_b2s (G:=G) (Z:=Z) A c (cs:=l.flatten.map .f) (by rw[List.length_map,Qn l hlen,Nat.mul_one]) (fun h0=> ?_) (by rw[QAJ];exact hs2))
  obtain⟨b,o',h3,_,h4⟩:=hw h0
  exact⟨b,o',h3,h4⟩
 ·rename_i id ver sz off n e1
  rw[e1]at ha
  split at hx
  case isFalse=>cases hx
  rename_i hsz
  subst hsz
  obtain⟨h1,rfl⟩:=YN hx
  split at h1
  case h_2=>cases h1
  rename_i cs hcs
  split at h1
  case isFalse=>cases h1
  rename_i hin
  split at h1
  case h_2=>cases h1
  rename_i s hs2
  obtain rfl:=Option.some.inj h1
  obtain⟨loc,hG,hob,hH⟩:=st.cells hcs
  rcases ha.sl_ hG with⟨rfl,A,hv⟩|⟨g,o',c,rfl,hv,_⟩
  ·rw[List.take_zero]at hs2
   obtain rfl:=Option.some.inj hs2
   exact fin A 0 0 [] hv (UP A 0)
  ·obtain⟨arr,et,hh,hcc⟩:=hob
   have hw:=((Wnd.of_row hh hcc).drop off).take n
   refine fin _ n c s hv (run_b2s (G:=G) (Z:=Z) _ c (cs:=(cs.drop off).take n) (by rw[List.length_take,List.length_drop];omega) (fun h0=>⟨g,o'+off*1,rfl,by rw[Nat.mul_one];exact hw⟩) hs2)
 ·cases hx
theorem St.newZ (st:St P G H Z w){w':World}(ho:Only w.heap.size w w') (hlt:w.heap.size<w'.heap.size):St P G H (fun b=>Z b∨b=w.heap.size) w'∧Step G Z w G (fun b=>Z b∨b=w.heap.size) w':=by
 have hkeep:Keep G Z w G (fun b=>Z b∨b=w.heap.size) w':=⟨fun b hz=>⟨.inl hz,ho.same b (st.zlt b hz) (by have:=st.zlt b hz;omega)⟩,fun _=>Nat.le_refl _,fun _ _=> .inr rfl,fun b arr e fz hl hh=>⟨arr,e,fz,by rw[ho.same b (VK hh) (by have:=VK hh;omega)];exact hh,rfl⟩⟩
 have hb:∀ id b o,(G id).2=some (some (b,o))→w'.heap[b]? = w.heap[b]?:=fun id b o h=>ho.same b (st.glt _ _ _ h) (by have:=st.glt _ _ _ h;omega)
 refine⟨⟨st.ver,st.dead,fun id o h=> ?_,st.inj,fun id g o h hz=> ?_,⟨fun b hz=> ?_,st.zlt.kn.mono hkeep.zin⟩,fun id g o h=>Nat.lt_of_lt_of_le (st.glt _ _ _ h) ho.size,fun id g o h=>(st.ones _ _ _ h).same (hb _ _ _ h)⟩,⟨hkeep,ho.os,ho.tape,ho.output,ho.size,fun b hb _=>ho.same b hb (by omega),fun b hz=> ?_,fun b hl=> .inl hl⟩⟩
 ·obtain⟨loc,h1,h2⟩:=st.obj id o h
  refine⟨loc,h1,?_⟩
  cases loc with
  | none=>cases o<;>exact h2
  | some p=>
   obtain⟨b,ob⟩:=p
   cases o with
   | cells cs=>
    obtain⟨arr,e,h3,h4⟩:=h2
    exact⟨arr,e,(hb _ _ _ h1).trans h3,h4.mono fun a v hr=>hr.keep hkeep⟩
   | ty cs tt=>
    obtain⟨h00,arr,h3,h4⟩:=h2
    exact⟨h00,arr,(by rw[hb _ _ _ h1];exact h3),h4.mono fun a v hr=>hr.keep hkeep⟩
   | _=>
    obtain⟨h3,es,clock,h4,h5⟩:=h2
    exact⟨h3,es,clock,(hb _ _ _ h1).trans h4,h5⟩
 ·rcases hz with hz|hz
  ·exact st.disj _ _ _ h hz
  ·have:=st.glt _ _ _ h;omega
 ·rcases hz with hz|rfl
  ·exact Nat.lt_of_lt_of_le (st.zlt b hz) ho.size
  ·exact hlt
 ·rcases hz with hz|rfl
  ·exact .inl hz
  ·exact .inr (.inr (Nat.le_refl _))
theorem QBv (st:St P G H Z w) (hρ : ∀ x,RepA G Z w (ρ x) (ρc x)) (src dst e:TypeId) (x:Operand) (hd:P.underlying dst=some (.slice e)) (he:P.underlying e=some (.int .u8)) (hs:P.underlying src=some .string) (hx:(eff (.strBytes x) ρ t).exec H=some (v,H')) (ho:o.op=.convert src dst x):OpOk P (execOp ρc o) G H Z w v H':=by
 have ha:=hρ x
 simp only[eff]at hx
 split at hx
 case h_2=>cases hx
 rename_i s e1
 rw[e1]at ha
 split at hx
 case isFalse=>cases hx
 rename_i hsz
 obtain⟨rfl,rfl⟩:=QN hx
 have hv:=ha.str_
 have hrun:=Lib.run_convert_string_bytes (P:=P) w src dst e s hs hd he
 have hO:Only w.heap.size w (Lib.bytesWorld w e s):=⟨rfl,rfl,rfl,by rw[Lib.bytesWorld_size];omega,fun b hb _=>Lib.bytesWorld_at_old w e s b hb,fun arr t' fz h=>absurd (VK h) (by omega)⟩
 obtain⟨s1,s2⟩:=st.newZ hO (by rw[Lib.bytesWorld_size];omega)
 refine⟨G,_,_,.slice (some ⟨w.heap.size,0,none⟩) s.size (grownCap w s.size 0 e),.inl (by simp [execOp,ho,hv,hrun]),s1,s2,.f ?_⟩
 have hlen:(s.data.toList.map encU).length=s.size:=by simp
 rcases Nat.eq_zero_or_pos s.size with h0|h0
 ·have hl:s.data.toList = []:=List.eq_nil_of_length_eq_zero (by rw[Array.length_toList];exact h0)
  rw[hl,h0]
  exact .frNil _ _ _ (grownCap_le_maxLen w 0 0 e (by unfold maxLen;omega))
 ·have hfr:=RepF.fr (Z:=fun b=>Z b∨b=w.heap.size) (w:=Lib.bytesWorld w e s) 1 (s.data.toList.map encU) w.heap.size 0 (grownCap w s.size 0 e) (fun k _=> .int .u8 (s.data.toList.getD k 0).toNat)
   (by rw[hlen];exact h0) (by rw[hlen];exact grownCap_ge w s.size 0 e) (grownCap_le_maxLen w s.size 0 e (by unfold maxLen;omega)) (.inr rfl) (fun y hy=>by
     obtain⟨b,_,rfl⟩:=List.mem_map.1 hy;rfl)
   (fun k j hk hj=>⟨by
     rw[hlen]at hk
     have hj0:j=0:=by omega
     subst hj0
     have:=Lib.bytesWorld_cell w e s k hk
     simpa using this,rfl⟩)
   (fun k j y a hk hj=>by
     rw[List.getElem?_map]at hk
     obtain⟨b,hb,rfl⟩:=Option.map_eq_some_iff.1 hk
     have hj0:j=0:=by
      have:=(List.getElem?_eq_some_iff.1 hj).1
      simp [encU]at this;omega
     subst hj0
     obtain rfl:=Option.some.inj hj
     rw[show s.data.toList.getD k 0=b by rw[List.getD_eq_getElem?_getD,hb];rfl]
     exact .int _ _)
  rw[hlen]at hfr
  exact hfr
theorem MZ:∀ {l:List AV}{r:List (List FV)},onesA l=some r→l=r.flatten.map .f∧(∀ x∈r,x.length=1)∧r.length=l.length
 | [],r,h=>by obtain rfl:=Option.some.inj h;exact⟨rfl,by simp,rfl⟩
 | a::l,r,h=>by
  cases a<;>try (simp [onesA]at h;done)
  rename_i x
  rw[onesA]at h
  split at h
  case h_2=>cases h
  rename_i r' h1
  obtain rfl:=Option.some.inj h
  obtain⟨g1,g2,g3⟩:=MZ h1
  refine⟨by rw[List.flatten_cons,List.map_append,← g1];rfl,fun y hy=> ?_,by simp [g3]⟩
  rcases List.mem_cons.1 hy with rfl|hy
  ·rfl
  ·exact g2 y hy
theorem ok_mark (st:St P G H Z w) (hρ : ∀ x,RepA G Z w (ρ x) (ρc x)) (src e:TypeId) (x:Operand) (hs:P.underlying src=some (.slice e)) (he:P.underlying e=some (.int .u8)) (hx:(eff (.mark x) ρ t).exec H=some (v,H')) (ho:o.op=.convert src src x):OpOk P (execOp ρc o) G H Z w v H':=by
 have ha:=hρ x
 simp only[eff]at hx
 split at hx
 case h_2=>cases hx
 rename_i id ver sz off n e1
 rw[e1]at ha
 split at hx
 case isFalse=>cases hx
 rename_i hc
 obtain⟨rfl,hn⟩:=hc
 obtain⟨y,h1,rfl⟩:=YC hx
 split at h1
 case h_2=>cases h1
 rename_i cs hcs
 split at h1
 case isFalse=>cases h1
 rename_i hin
 split at h1
 case h_2=>cases h1
 rename_i l hl
 simp only[Option.some.injEq,Prod.mk.injEq]at h1
 obtain⟨rfl,rfl⟩:=h1
 obtain⟨loc,hG,hob,hH⟩:=st.cells hcs
 rcases ha.sl_ hG with⟨rfl,A,hv⟩|⟨g,o',c,rfl,hv,hnc,hcm,_⟩
 ·exact absurd rfl hn
 obtain⟨arr,et,hh,hcc⟩:=hob
 have hlt:=VK hh
 have hsh:w.shape? g=some (et,arr.size):=by simp [World.shape?,hh]
 have hO:Only g w (w.freeze ⟨g,arr.size,none⟩ 1):=by
  refine⟨rfl,rfl,rfl,by simp [World.freeze],fun b _ hb=> ?_,fun arr' e' fz' h=> ?_⟩
  ·simp [World.freeze,Array.getElem?_modify,Ne.symm hb]
  ·rw[hh]at h
   simp only[Option.some.injEq,Obj.cells.injEq]at h
   obtain⟨rfl,rfl,rfl⟩:=h
   exact⟨arr,et,(arr.size,arr.size+1),by simp [World.freeze,Array.getElem?_modify,hh],rfl⟩
 have hh':(w.freeze ⟨g,arr.size,none⟩ 1).heap[g]? = some (.cells arr et (arr.size,arr.size+1)):=by simp [World.freeze,Array.getElem?_modify,hh]
 have hGid:(G id).2=some (some (g,o')):=by rw[hG]
 obtain⟨s1,s2⟩:=st.change id g hO (ver,none) (ver,none) (.inr ⟨o',hGid⟩) (.inr fun _ h=>by cases h) rfl (by rw[hH];exact Nat.le_refl _) (fun _=> .inl rfl) (.inl rfl) (fun ⟨_,h⟩=>by cases h) (fun _=>rfl) (fun _ h=>by cases h)
 have hdead:∀ id' o2,(upd G id (ver,none) id').2=some (some (g,o2))→False:=fun id' o2 h=>by
  by_cases e:id'=id
  ·subst e;rw[upd_same]at h;cases h
  ·rw[QL _ _ _ _ e]at h;exact e (st.inj _ _ _ _ _ h hGid)
 have hkz:∀ {G1:QM}{w1:World}{G2:QM}{w2:World}{Z1 Z2:Nat→Prop},Keep G1 Z1 w1 G2 Z2 w2→Keep G1 Z1 w1 G2 (fun b=>Z2 b∨b=g) w2:=fun h=>⟨fun b hz=>⟨.inl (h.zin b hz).1,(h.zin b hz).2⟩,h.ver,h.same,h.room⟩
 have hkZ:Keep (upd G id (ver,none)) Z (w.freeze ⟨g,arr.size,none⟩ 1) (upd G id (ver,none)) (fun b=>Z b∨b=g) (w.freeze ⟨g,arr.size,none⟩ 1):=hkz (Keep.refl _ _ _)
 have s1':St P (upd G id (ver,none)) (upd H id (ver,none)) (fun b=>Z b∨b=g) (w.freeze ⟨g,arr.size,none⟩ 1):=by
  refine⟨s1.ver,s1.dead,fun id' ob h=> ?_,s1.inj,fun id' b o2 h hz=> ?_,⟨fun b hz=> ?_,s1.zlt.kn.mono hkZ.zin⟩,s1.glt,s1.ones⟩
  ·obtain⟨loc,h1,h2⟩:=s1.obj id' ob h
   refine⟨loc,h1,?_⟩
   cases loc with
   | none=>cases ob<;>exact h2
   | some p=>
    obtain⟨b,o3⟩:=p
    cases ob with
    | cells cs=>
     obtain⟨arr,e,h3,h4⟩:=h2
     exact⟨arr,e,h3,h4.mono fun a v hr=>hr.keep hkZ⟩
    | ty cs tt=>
     obtain⟨h00,arr,h3,h4⟩:=h2
     exact⟨h00,arr,h3,h4.mono fun a v hr=>hr.keep hkZ⟩
    | _=>exact h2
  ·rcases hz with hz|rfl
   ·exact s1.disj _ _ _ h hz
   ·exact hdead _ _ h
  ·rcases hz with hz|rfl
   ·exact s1.zlt b hz
   ·exact VK hh'
 have s2':Step G Z w (upd G id (ver,none)) (fun b=>Z b∨b=g) (w.freeze ⟨g,arr.size,none⟩ 1):=⟨hkz s2.toKeep,s2.os,s2.tape,s2.output,s2.size,s2.old,fun b hz=>by
  rcases hz with hz|rfl
  ·exact s2.zout b hz
  ·exact .inr (.inl ⟨id,o',hGid⟩),s2.live⟩
 obtain⟨g1,g2,g3⟩:=MZ hl
 have hln:l.length=n:=by rw[g3,List.length_take,List.length_drop];omega
 have hrun:(convert src src (ρc x)).run P w=.ok (ρc x) (w.freeze ⟨g,arr.size,none⟩ 1):=by
  rw[hv]
  simp [convert,run_underlying hs,run_underlying he,markStringish,hsh,Result.andThen]
 refine⟨_,_,_,ρc x,.inl (by simp [execOp,ho,hrun]),s1',s2',.f ?_⟩
 rw[hv]
 have hget:∀ k,k<n→∃ y u,l[k]? = some [y]∧arr[o'+(off+k)]? = some u∧u.oneCell'=true∧RepF Z w y u:=fun k hk=>by
  obtain⟨z,hz⟩:∃ z,l[k]? = some z:=⟨_,List.getElem?_eq_getElem (by omega)⟩
  have hzl:=g2 z (List.mem_of_getElem? hz)
  obtain⟨y,rfl⟩:∃ y,z = [y]:=by
   rcases z with _|⟨y,_|⟨y',z⟩⟩
   ·simp at hzl
   ·exact⟨y,rfl⟩
   ·simp at hzl
  have h2:∀ (l:List (List FV)) (k:Nat) (y:FV),(∀ x∈l,x.length=1)→l[k]? = some [y]→l.flatten[k]? = some y:=by
   intro l
   induction l with
   | nil=>intro k y _ h;simp at h
   | cons z l ih=>
    intro k y hall h
    have hz1:=hall z (by simp)
    obtain⟨q,rfl⟩:∃ q,z = [q]:=by
     rcases z with _|⟨q,_|⟨q',z⟩⟩
     ·simp at hz1
     ·exact⟨q,rfl⟩
     ·simp at hz1
    cases k with
    | zero=>simpa using h
    | succ k=>simpa using ih k y (fun x hx=>hall x (by simp [hx])) (by simpa using h)
  have h3:((cs.drop off).take n)[k]? = some (.f y):=by rw[g1,List.getElem?_map,h2 l k y g2 hz];rfl
  rw[List.getElem?_take_of_lt hk,List.getElem?_drop]at h3
  obtain⟨u,h4,h5,h6⟩:=hcc _ _ h3
  exact⟨y,u,hz,h4,h5,h6.f_⟩
 have hkeepF:∀ {y:FV}{u:Value},RepF Z w y u→RepF (fun b=>Z b∨b=g) (w.freeze ⟨g,arr.size,none⟩ 1) y u:=fun h=>h.keep s2'.zin
 have hfr:=RepF.fr (Z:=fun b=>Z b∨b=g) (w:=w.freeze ⟨g,arr.size,none⟩ 1) 1 l g (o'+off*1) c (fun k _=>(arr[o'+(off+k)]?).getD undef)
  (by omega) (by omega) hcm (.inr rfl) g2
  (fun k j hk hj=>by
    obtain⟨y,u,h1,h2,h3,h4⟩:=hget k (by omega)
    have hj0:j=0:=by omega
    subst hj0
    rw[cell_of_row _ g _ arr et _ hh',show o'+off*1+k*1+0=o'+(off+k) by omega,h2]
    exact⟨rfl,h3⟩)
  (fun k j z a hk hj=>by
    obtain⟨y,u,h1,h2,h3,h4⟩:=hget k (by have:=(List.getElem?_eq_some_iff.1 hk).1;omega)
    rw[hk]at h1
    obtain rfl:=Option.some.inj h1
    have hj0:j=0:=by have:=(List.getElem?_eq_some_iff.1 hj).1;simp at this;omega
    subst hj0
    obtain rfl:=Option.some.inj hj
    simp only[h2,Option.getD_some]
    exact hkeepF h4)
 rw[hln]at hfr
 exact hfr
end
end Go.Proofs.YtjfchihkhpinmaaGreatDoor
