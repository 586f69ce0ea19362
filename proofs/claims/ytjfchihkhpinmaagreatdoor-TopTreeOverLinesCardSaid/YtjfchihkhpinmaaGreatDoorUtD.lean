/-
  A content that is delivered to a receiver that has others. No statement of the seat is proved here; no conditions.
-/
import Derived.Test.YtjfchihkhpinmaaGreatDoorTtB
import Derived.Test.YtjfchihkhpinmaaGreatDoorMsP
import Derived.Test.YtjfchihkhpinmaaGreatDoorUtC
namespace Go.Proofs.YtjfchihkhpinmaaGreatDoor
open Go.RowKit Go.Shelf
set_option linter.unusedVariables false
set_option linter.unusedSimpArgs false

structure QDx (D:List Ob) (t:ByteArray):Prop where
 ok:DOk D
 no:hasK kOb D t=false
 lt:D.length<4000
def HasD (D:List Ob) (t:ByteArray) (b:List UInt8) (r:Rc) (f:Nat):Prop:=r=(D,[])∧f=0∨r=(D,[(t,(b.length:Int),b.take f)])∧f<b.length
theorem QDf {D:List Ob}{b:List UInt8}{r:Rc}{f:Nat}(hF:QDx D (digV b)) (h:HasD D (digV b) b r f) (hb:b.length≤100000) :
  VC r.1 r.2 (1,digV b,0,b.length,[])=(0,(insO D (digV b,b),[]),(4,digV b,0,0,[]))∧b.length=f∨
  f<b.length∧VC r.1 r.2 (1,digV b,0,b.length,[])=(0,(D,[(digV b,(b.length:Int),b.take f)]),(3,digV b,(f:Int),0,[])):=by
 have hd:=Xz (b:=b)
 have hck:=QDn hd hb
 have hgen:∀ P,VC D P (1,digV b,0,b.length,[])=Xv D P (digV b) b.length:=fun P=>by
  unfold VC
  dsimp only
  rw[if_neg (fun h=>h hck),if_neg (by decide),if_neg (by rw[hF.no];decide),if_pos rfl]
 rcases h with⟨rfl,rfl⟩|⟨rfl,hf⟩
 ·dsimp only
  rw[hgen]
  have hg:pGet [] (digV b)=none:=by unfold pGet;rw[if_neg (by simp [hasK])]
  unfold Xv
  rw[hg]
  dsimp only
  unfold beg2
  rcases Nat.eq_zero_or_pos b.length with h0|h0
  ·left
   rw[h0]
   obtain rfl:=List.eq_nil_of_length_eq_zero h0
   rw[if_pos (by rfl)]
   unfold VB
   rw[if_pos rfl,if_neg (by have:=hF.lt;omega)]
   exact⟨rfl,rfl⟩
  ·right
   rw[if_neg (by omega),if_neg (by simp),if_neg (by omega)]
   exact⟨h0,by rw[List.take_zero];rfl⟩
 ·dsimp only
  rw[hgen]
  unfold Xv
  rw[OT]
  dsimp only
  rw[if_pos rfl]
  right
  refine⟨hf,?_⟩
  rw[List.length_take,Nat.min_eq_left (by omega)]
theorem hasD_data {D:List Ob}{b:List UInt8}{f most:Nat}(hF:QDx D (digV b)) (hf:f<b.length) (hb:b.length≤100000) (hm:1≤most∧most≤65536) :
  VC D [(digV b,(b.length:Int),b.take f)] (dMsg (digV b) b f most)=if f+most<b.length then(0,(D,[(digV b,(b.length:Int),b.take (f+most))]),(3,digV b,((f+most:Nat):Int),0,[]))else(0,(insO D (digV b,b),[]),(4,digV b,0,0,[])):=by
 have hd:=Xz (b:=b)
 have hcl:((b.drop f).take most).length=min most (b.length - f):=by rw[List.length_take,List.length_drop]
 have happ:b.take f++(b.drop f).take most=b.take (f+most):=by rw[List.take_add]
 unfold dMsg
 generalize (b.drop f).take most=c at*
 have hck:ckMg (2,digV b,(f:Int),0,c) c.length=0:=by
  unfold ckMg
  dsimp only
  rw[if_neg (by decide),if_neg (by rw[hd];decide),if_neg (by simp only[inRg,Bool.not_eq_false,Bool.and_eq_true,decide_eq_true_eq];omega),if_neg (by omega),if_neg (by simp),if_neg (by simp),if_neg (by
   have:decide (0<(c.length:Int))=true:=decide_eq_true (by omega)
   rw[this];simp)]
 have e1:VC D [(digV b,(b.length:Int),b.take f)] (2,digV b,(f:Int),0,c)=Zw D [(digV b,(b.length:Int),b.take f)] (digV b,(b.length:Int),b.take f) (digV b) f c:=by
  unfold VC
  dsimp only
  rw[if_neg (fun h=>h hck),if_neg (by decide),if_neg (by rw[hF.no];decide),if_neg (by decide),OT]
  dsimp only
  rw[if_pos rfl]
 have hi:Qc [(digV b,(b.length:Int),b.take f)] (digV b)=0:=by
  obtain⟨g1,_,_⟩:=XO (P:=[(digV b,(b.length:Int),b.take f)]) QCd OT
  have:=(List.getElem?_eq_some_iff.1 g1).1
  simp only[List.length_cons,List.length_nil]at this
  omega
 have htl:(b.take f).length=f:=by rw[List.length_take];omega
 rw[e1]
 unfold Zw
 dsimp only
 have hmin:min c.length ((b.take f).length - (f:Int).toNat)=0:=by omega
 rw[hmin,if_neg (by omega),if_pos (by rw[List.take_zero,List.take_zero]),if_neg (by omega),List.drop_zero,happ,hi]
 have hl2:(b.take (f+most)).length=min (f+most) b.length:=List.length_take
 by_cases h:f+most<b.length
 ·rw[if_pos (by omega),if_pos h,hl2,Nat.min_eq_left (by omega)]
  rfl
 ·have hx:b.take (f+most)=b:=List.take_of_length_le (by omega)
  rw[hx,if_neg (Int.lt_irrefl _),if_neg h]
  unfold VB
  rw[if_pos rfl,if_neg (by have:=hF.lt;omega)]
  unfold delP
  rw[hi]
  rfl
structure SesD (D:List Ob) (t:ByteArray) (b:List UInt8) (most:Nat) (f:Nat) (s:Int) (R:(Bool × Int) × Rc × Int):Prop where
 ok:R.1.2=0
 at_:R.1.1=true∧R.2.1=(insO D (t,b),[])∧R.2.2=s+((b.length - f:Nat):Int)∨R.1.1=false∧∃ g:Nat,HasD D t b R.2.1 g∧f≤g∧g≤b.length∧s+((g - f:Nat):Int)≤R.2.2∧R.2.2≤s+((g - f:Nat):Int)+most
theorem QAc {D:List Ob}{b:List UInt8}{most:Nat}(hF:QDx D (digV b)) (hb:b.length≤100000) (hm:1≤most∧most≤65536):∀ (k:Nat) (left:Int) (f:Nat) (s:Int),f<b.length→b.length - f<k→
  SesD D (digV b) b most f s (YE (digV b) b most k left (dMsg (digV b) b f most) (D,[(digV b,(b.length:Int),b.take f)]) s)
 | 0,_,_,_,_,h=>absurd h (by omega)
 | k+1,left,f,s,hf,hk=>by
  have hcl:(dMsg (digV b) b f most).2.2.2.2.length=min most (b.length - f):=by
   show((b.drop f).take most).length=_
   rw[List.length_take,List.length_drop]
  have hV:=hasD_data hF hf hb hm
  rw[YE]
  dsimp only
  rw[hV,hcl]
  by_cases h0:left=0
  ·rw[if_pos h0]
   exact⟨rfl,.inr ⟨rfl,f,.inr ⟨rfl,hf⟩,Nat.le_refl _,by omega,by dsimp only;omega,by dsimp only;omega⟩⟩
  rw[if_neg h0]
  by_cases h:f+most<b.length
  ·rw[if_pos h]
   dsimp only
   rw[if_neg (by simp),Int.toNat_natCast]
   obtain⟨q1,q2⟩:=QAc hF hb hm k (left - 1) (f+most) (s+(min most (b.length - f):Nat)) h (by omega)
   refine⟨q1,?_⟩
   rcases q2 with⟨a1,a2,a3⟩|⟨a1,g,a2,a3,a4,a5,a6⟩
   ·exact .inl ⟨a1,a2,by rw[a3];omega⟩
   ·exact .inr ⟨a1,g,a2,by omega,a4,by omega,by omega⟩
  ·rw[if_neg h]
   dsimp only
   rw[if_pos (by simp)]
   exact⟨rfl,.inl ⟨rfl,rfl,by dsimp only;omega⟩⟩
theorem QAb {D:List Ob}{b:List UInt8}{most:Nat}(hF:QDx D (digV b)) (hb:b.length≤100000) (hm:1≤most∧most≤65536){r:Rc}{f:Nat}(h:HasD D (digV b) b r f) (left:Int) (s:Int) :
  SesD D (digV b) b most f s (YE (digV b) b most (b.length+2) left (1,digV b,0,b.length,[]) r s):=by
 have hfl:f≤b.length:=by rcases h with⟨_,h⟩|⟨_,h⟩<;>omega
 rw[YE]
 dsimp only
 by_cases h0:left=0
 ·rw[if_pos h0]
  exact⟨rfl,.inr ⟨rfl,f,h,Nat.le_refl _,hfl,by simp,by simp;omega⟩⟩
 rw[if_neg h0]
 rcases QDf hF h hb with⟨hV,hL⟩|⟨hf,hV⟩
 ·rw[hV]
  dsimp only
  rw[if_pos (by simp)]
  exact⟨rfl,.inl ⟨rfl,rfl,by dsimp only[List.length_nil];omega⟩⟩
 ·rw[hV]
  dsimp only
  rw[if_neg (by simp),Int.toNat_natCast]
  have:=QAc hF hb hm (b.length+1) (left - 1) f (s+(([]:List UInt8).length:Int)) hf (by omega)
  simpa using this
theorem QC3 {D:List Ob}{b:List UInt8}{most:Nat}(hF:QDx D (digV b)) (hb:b.length≤100000) (hm:1≤most∧most≤65536):∀ (l:List Int) (r:Rc) (f:Nat) (s:Int),HasD D (digV b) b r f→
  ∃ n:Int,delV (digV b) b most (l++ [-1]) r s=(0,(insO D (digV b,b),[]),n)∧s+((b.length - f:Nat):Int)≤n∧n≤s+((b.length - f:Nat):Int)+(most:Int)*(l.length:Int)
 | [],r,f,s,h=>by
  have hS:=QAb hF hb hm h (-1) s
  have hn:=OV (t:=digV b) (b:=b) (most:=most) (b.length+2) (-1) (1,digV b,0,b.length,[]) r s (by decide)
  rw[List.nil_append,delV]
  generalize YE (digV b) b most (b.length+2) (-1) (1,digV b,0,b.length,[]) r s=R at*
  obtain⟨q1,q2⟩:=hS
  rw[if_neg (fun hh=>hh q1),if_pos hn]
  rcases q2 with⟨a1,a2,a3⟩|⟨a1,_⟩
  ·refine⟨R.2.2,?_,by omega,by simp;omega⟩
   rw[← a2]
  ·rw[hn]at a1;cases a1
 | x::l,r,f,s,h=>by
  have hS:=QAb hF hb hm h x s
  rw[List.cons_append,delV]
  generalize YE (digV b) b most (b.length+2) x (1,digV b,0,b.length,[]) r s=R at*
  obtain⟨q1,q2⟩:=hS
  rw[if_neg (fun hh=>hh q1)]
  have hml:(most:Int)*((x::l).length:Int)=(most:Int)*(l.length:Int)+most:=by rw[List.length_cons,Int.natCast_add,Int.mul_add];simp
  have hnn:0≤(most:Int)*(l.length:Int):=Int.mul_nonneg (by omega) (by omega)
  rcases q2 with⟨a1,a2,a3⟩|⟨a1,g,a2,a3,a4,a5,a6⟩
  ·rw[if_pos a1]
   refine⟨R.2.2,?_,by omega,by rw[hml];omega⟩
   rw[← a2]
  ·rw[if_neg (by rw[a1];decide)]
   obtain⟨n,e,e1,e2⟩:=QC3 hF hb hm l R.2.1 g R.2.2 a2
   exact⟨n,e,by omega,by rw[hml];omega⟩
theorem insO_last {D:List Ob}{t:ByteArray}{b:List UInt8}(h:∀ x∈D,strLt x.1 t=true):insO D (t,b)=D++ [(t,b)]:=by
 have e:KX D t=D.length:=WW (cf:=fun b:Ob=>cmpB b.1 t) (Nat.le_refl _) (fun m x _ hx=>Zg.2 (h x (List.mem_of_getElem? hx))) (fun m x hm hx=>absurd (List.getElem?_eq_some_iff.1 hx).1 (by omega))
 unfold insO
 rw[e,List.take_length,List.drop_length]
theorem DOk.take {O:List Ob}(h:DOk O) (i:Nat):DOk (O.take i):=by
 refine⟨by rw[List.length_take];have:=h.len;omega,fun x hx=>h.ok x (List.mem_of_mem_take hx),fun a c x y hac hx hy=> ?_⟩
 rw[List.getElem?_take]at hx hy
 split at hx
 ·split at hy
  ·exact h.rise a c x y hac hx hy
  ·cases hy
 ·cases hx
theorem QDg {O:List Ob}(h:DOk O){i:Nat}{x:Ob}(hx:O[i]? = some x):QDx (O.take i) x.1∧∀ y∈O.take i,strLt y.1 x.1=true:=by
 have hlt:=(List.getElem?_eq_some_iff.1 hx).1
 have hall:∀ y∈O.take i,strLt y.1 x.1=true:=fun y hy=>by
  obtain⟨m,hm⟩:=List.mem_iff_getElem?.1 hy
  rw[List.getElem?_take]at hm
  split at hm
  ·exact h.rise m i y x (by omega) hm hx
  ·cases hm
 refine⟨⟨h.take i,?_,by rw[List.length_take];have:=h.len;omega⟩,hall⟩
 rw[VJ]
 intro y hy e
 have:=hall y hy
 rw[show y.1=x.1 from e,Qv]at this
 cases this
theorem QBS {O:List Ob}(h:DOk O){i:Nat}{x:Ob}(hx:O[i]? = some x) (most:Int) (l:List Int) :
  ((Qu (O.take i,[]) x.1 x.2 most l).2.2.2≠0∧(Qu (O.take i,[]) x.1 x.2 most l).2.1=0∧(Qu (O.take i,[]) x.1 x.2 most l).2.2.1=false)∨
  ((Qu (O.take i,[]) x.1 x.2 most l).2.2.2=0∧(Qu (O.take i,[]) x.1 x.2 most l).1=(O.take (i+1),[])∧(Qu (O.take i,[]) x.1 x.2 most l).2.2.1=true∧(x.2.length:Int)≤(Qu (O.take i,[]) x.1 x.2 most l).2.1):=by
 obtain⟨hF,hall⟩:=QDg h hx
 have hk:=(h.ok x (List.mem_of_getElem? hx)).1
 have htk:O.take (i+1)=O.take i++ [x]:=by rw[List.take_add_one,hx];rfl
 obtain⟨t,b⟩:=x
 dsimp only at hF hall hk ⊢
 subst hk
 have hck:ckRc (O.take i,[])=0:=WS.2 ⟨hF.ok,⟨by simp,fun x hx=>by simp at hx,rise_nil⟩⟩
 unfold Qu
 rw[if_neg (fun h=>h hck)]
 obtain⟨e1,hcc⟩:∃ e,e=ckC (digV b) b:=⟨_,rfl⟩
 rw[← hcc]
 by_cases h1:e1=0
 case neg=>rw[if_pos h1];exact .inl ⟨h1,rfl,rfl⟩
 rw[if_neg (fun h=>h h1)]
 by_cases h2:inRg most 1 65536=false
 ·rw[if_pos h2];exact .inl ⟨by show(1:Int)≠0;decide,rfl,rfl⟩
 rw[if_neg h2]
 by_cases h3:100<l.length
 ·rw[if_pos h3];exact .inl ⟨by show(2:Int)≠0;decide,rfl,rfl⟩
 rw[if_neg h3]
 by_cases h4:l.any (fun n=> !inRg n 0 20000)=true
 ·rw[if_pos h4];exact .inl ⟨by show(1:Int)≠0;decide,rfl,rfl⟩
 rw[if_neg h4]
 have hb:b.length≤100000:=by
  rw[hcc]at h1
  unfold ckC at h1
  rw[if_neg (by rw[Xz];decide)]at h1
  split at h1
  ·cases h1
  ·omega
 have hm:1≤most∧most≤65536:=by
  rw[Bool.not_eq_false]at h2
  simp only[inRg,Bool.and_eq_true,decide_eq_true_eq]at h2
  exact h2
 obtain⟨n,e,e1,e2⟩:=QC3 hF hb (most:=most.toNat) (by omega) l (O.take i,[]) 0 0 (.inl ⟨rfl,rfl⟩)
 rw[e,insO_last hall]
 dsimp only
 rw[if_neg (fun h=>h rfl)]
 refine .inr ⟨rfl,?_,?_,?_⟩
 ·dsimp only;rw[htk]
 ·dsimp only
  rw[WK]
  exact⟨(digV b,b),List.mem_append_right _ (List.mem_singleton.2 rfl),rfl⟩
 ·dsimp only
  omega
end Go.Proofs.YtjfchihkhpinmaaGreatDoor
namespace Go.Proofs.YtjfchihkhpinmaaGreatDoor
open Go.RowKit Go.Shelf
set_option linter.unusedVariables false
set_option linter.unusedSimpArgs false
set_option maxRecDepth 100000

theorem QCK {r:Rc}{t:ByteArray}{b:List UInt8}{most:Int}{l:List Int}(h:(Qu r t b most l).2.2.2≠0):Qu r t b most l=(([],[]),0,false,(Qu r t b most l).2.2.2):=by
 unfold Qu at h ⊢
 repeat' split
 all_goals first|rfl|(rename_i h1 h2 h3 h4 h5 h6;rw[if_neg h1,if_neg h2,if_neg h3,if_neg h4,if_neg h5,if_neg h6]at h;exact absurd rfl h)
theorem Deliver_z (r:Rc) (t:ByteArray) (b:List UInt8) (most:Int) (l:List Int) (hl:(r.1.length:Int)≤9223372036854775807∧(r.2.length:Int)≤9223372036854775807) (hb:(∀ x∈r.1,(x.2.length:Int)≤9223372036854775807)∧∀ x∈r.2,(x.2.2.length:Int)≤9223372036854775807) :
  FRet Tryz.prog 7 [aRc r,.f (.str t),.f (frB b),.f (.int .i64 most),.f (frI l)] [.agg [.v (XJ (Qu r t b most l).1.1),.v (Ue (Qu r t b most l).1.2)],rInt (Qu r t b most l).2.1,.c (.v (.bool (Qu r t b most l).2.2.1)),rInt (Qu r t b most l).2.2.2]:=
 (Deliver_w r t b most l hl hb).frz2 ⟨⟨QCg (enc:=fOb) (fun _=>rfl),QCg (enc:=fPt) (fun _=>rfl),trivial⟩,rfl,rfl,rfl,trivial⟩
end Go.Proofs.YtjfchihkhpinmaaGreatDoor
namespace Go.Proofs.YtjfchihkhpinmaaGreatDoor
open Go.RowKit Go.Shelf
set_option linter.unusedVariables false
set_option linter.unusedSimpArgs false
set_option maxRecDepth 100000

theorem XT:FRet Tryz.prog 6 [] [.c (.v (.bool true))]:=by
 have hd:decide (digV [97]=⟨#[97,102,54,51,100,99,52,99,56,54,48,49,101,99,56,99]⟩)=true:=by decide +kernel
 have hD:=Ju [97] (by decide)
 generalize digV [97]=d at*
 replace hD:=hide hD
 refine FCall.of_ax Oi ?_
 dsimp only[jm,ji,jf,jl,jL,jn,je,jx,jT,jC,jB,jq,jt,ju,jA,km,kf,kl,kn,kx,Nj]
 refine zrs ?_
 repeat'(first|(simp -implicitDefEqProofs only[*,frB,encU,zr,seval,reduceIte,reduceCtorEq])|(apply zk<;>intro hc)|(refine zp ?_)|(refine zd ?_)|(refine cP (hD.out) ?_)|(refine cD (hD.out) ?_)|(refine cF (hD.out) ?_)|fail)
 exact VO
theorem fOb_rows {L:List Ob} : ∀ x∈L.map fOb,x.length=2:=fun x hx=>by
 obtain⟨d,_,rfl⟩:=List.mem_map.1 hx;rfl
theorem fFt_rows {L:List FT} : ∀ x∈L.map fFt,x.length=3:=fun x hx=>by
 obtain⟨d,_,rfl⟩:=List.mem_map.1 hx;exact Vc d
theorem law_no (l:List FT) (most:Int) (bk:List Int) (e:Int) (he:e≠0) (kT:FRet Tryz.prog 4 [.f (QY l)] [.c (.v (.str ⟨#[]⟩)),.c (.v .nil),.c (.v (.int .i64 e))]) :
  FRet Tryz.prog 3 [.f (QY l),.f (.int .i64 most),.f (frI bk)] [.c (.v (.bool true))]:=by
 have d0:decide (e=0)=false:=decide_eq_false he
 have d1:decide ((⟨#[]⟩:ByteArray)=⟨#[]⟩)=true:=by decide
 replace he:=hide he
 generalize QY l=FL at*
 generalize frI bk=BK at*
 refine FCall.of_ax Va ?_
 dsimp only[jm,ji,jf,jl,jL,jn,je,jx,jT,jC,jB,jq,jt,ju,jA,km,kf,kl,kn,kx,VU]
 refine zrs ?_
 repeat'(first|(simp -implicitDefEqProofs only[*,zr,seval,reduceIte,reduceCtorEq])|(refine zp ?_)|(refine zd ?_)|(refine cP (kT) ?_)|(refine cD (kT) ?_)|(refine cF (kT) ?_)|(refine cP (XT) ?_)|(refine cD (XT) ?_)|(refine cF (XT) ?_)|fail)
 exact VO
theorem law_un (l:List FT) (most:Int) (bk:List Int) (root:ByteArray) (O:FV) (kT:FRet Tryz.prog 4 [.f (QY l)] [.c (.v (.str root)),.c (.v O),.c (.v (.int .i64 0))]) (kF:FRet Tryz.prog 5 [.f (QY l)] [.c (.v (.bool false))]) :
  FRet Tryz.prog 3 [.f (QY l),.f (.int .i64 most),.f (frI bk)] [.c (.v (.bool true))]:=by
 have d0:decide ((0:Int)=0)=true:=rfl
 generalize QY l=FL at*
 generalize frI bk=BK at*
 refine FCall.of_ax Va ?_
 dsimp only[jm,ji,jf,jl,jL,jn,je,jx,jT,jC,jB,jq,jt,ju,jA,km,kf,kl,kn,kx,VU]
 refine zrs ?_
 repeat'(first|(simp -implicitDefEqProofs only[*,zr,seval,reduceIte,reduceCtorEq])|(refine zp ?_)|(refine zd ?_)|(refine cP (kT) ?_)|(refine cD (kT) ?_)|(refine cF (kT) ?_)|(refine cP (kF) ?_)|(refine cD (kF) ?_)|(refine cF (kF) ?_)|(refine cP (XT) ?_)|(refine cD (XT) ?_)|(refine cF (XT) ?_)|fail)
 exact VO
set_option maxHeartbeats 8000000 in
theorem law_main (l:List FT) (most:Int) (bk:List Int) (root:ByteArray) (O:List Ob) (hD:DOk O) (kT:FRet Tryz.prog 4 [.f (QY l)] [.c (.v (.str root)),.c (.v (XJ O)),.c (.v (.int .i64 0))]) (kF:FRet Tryz.prog 5 [.f (QY l)] [.c (.v (.bool true))])
  (kFi:FRet Tryz.prog 8 [.f (.str root),.f (XJ O)] [.c (.v (QY l)),.c (.v (.int .i64 0))]) (kS:FRet Tryz.prog 9 [.f (QY l),.f (QY l)] [.c (.v (.bool true))]) :
  FRet Tryz.prog 3 [.f (QY l),.f (.int .i64 most),.f (frI bk)] [.c (.v (.bool true))]:=by
 have d0:decide ((0:Int)=0)=true:=rfl
 have hStep:=hide (fun (i:Nat) (x:Ob) (hx:O[i]? = some x)=>QBS hD hx most bk)
 have hNil:=hide (fun (i:Nat) (x:Ob)=>QCK (r:=(O.take i,[])) (t:=x.1) (b:=x.2) (most:=most) (l:=bk))
 have hV:=hide (fun (i:Nat) (x:Ob)=>Deliver_z (O.take i,[]) x.1 x.2 most bk ⟨by have h:=hD.len;show((O.take i).length:Int)≤_;rw[List.length_take];omega,Int.le_of_lt (by simp)⟩ ⟨fun y hy=>by have:=(hD.ok y (List.mem_of_mem_take hy)).2;omega,fun x hx=>by cases hx⟩)
 have hlen:=hD.len
 have hsz:=hide (fun (x:Ob) (hx:x∈O)=>(hD.ok x hx).2)
 clear hD
 generalize QY l=FL at*
 generalize frI bk=BK at*
 refine FCall.of_ax Va ?_
 dsimp only[jm,ji,jf,jl,jL,jn,je,jx,jT,jC,jB,jq,jt,ju,jA,km,kf,kl,kn,kx,VU]
 refine zrs ?_
 dsimp only[XJ]at kT
 repeat'(first|(simp -implicitDefEqProofs only[*,zr,seval,reduceIte,reduceCtorEq])|(refine zp ?_)|(refine zd ?_)|(refine cP (kT) ?_)|(refine cD (kT) ?_)|(refine cF (kT) ?_)|(refine cP (kF) ?_)|(refine cD (kF) ?_)|(refine cF (kF) ?_)|fail)
 clear kT kF
 refine QK (S:=Nat) 111 [0,1,2,7,8,10] [] (fun s=>[(11,.f (.int .i64 s))]) (fun s=>[(10,1,AObj.cells [.f (XJ (O.take s)),.f (Ue [])])]) (fun s=>s≤O.length) (fun s=>O.length - s) (0) [] ?_ ?_ fun s hs=> ?_
 ·exact Nat.zero_le _
 ·refine wk_i ?_ ?_<;>simp only[List.take_zero,XJ,Ue,zw,seval,reduceIte,reduceCtorEq]
  exact⟨⟨2,rfl⟩,⟨3,rfl⟩⟩
 rcases Nat.lt_or_ge s O.length with hlt|hge
 ·obtain⟨x,hx⟩:=QH hlt
  have h4:=XU hlt (by omega)
  have h2:=lt_t hlt
  have kV:=hV.out s x
  have hx1:(O.map fOb)[s]? = some [.str x.1,frB x.2]:=by rw[List.getElem?_map,hx];rfl
  have hN:=hNil.out s x
  have hxz:=hsz.out x (List.mem_of_getElem? hx)
  have hS:=hStep.out s x hx
  generalize Qu (O.take s,[]) x.1 x.2 most bk=V at*
  obtain⟨⟨E,Q⟩,n,bo,q⟩:=V
  dsimp only at hS hN
  dsimp only[aRc,rInt]at kV
  rcases hS with⟨e0,rfl,rfl⟩|⟨rfl,e1,rfl,e2⟩
  ·have d1:decide (q=0)=false:=decide_eq_false e0
   replace e0:=hide e0
   clear hV hNil hStep hsz hN hxz
   obtain⟨t,b⟩:=x
   dsimp only at kV hx1
   generalize XJ (O.take s)=F1 at*
   generalize Ue []=F2 at*
   generalize frB b=B at*
   generalize XJ E=F3 at*
   generalize Ue Q=F4 at*
   refine zrs ?_
   repeat'(first|(simp -implicitDefEqProofs only[*,QE,List.length_map,zr,seval,reduceIte,reduceCtorEq])|(refine zp ?_)|(refine zd ?_)|(refine cP (kV) ?_)|(refine cD (kV) ?_)|(refine cF (kV) ?_)|(refine cP (XT) ?_)|(refine cD (XT) ?_)|(refine cF (XT) ?_)|fail)
   exact VO
  ·obtain⟨rfl,rfl⟩:=Prod.mk.inj e1
   clear hV hNil hStep hsz hN e1
   obtain⟨t,b⟩:=x
   dsimp only[frB]at kV hx1 e2 hxz
   have d1:decide (n<(b.length:Int))=false:=decide_eq_false (by omega)
   generalize hF3:XJ (O.take (s+1))=F3 at*
   replace hF3:=hide hF3
   generalize XJ (O.take s)=F1 at*
   generalize Ue []=F2 at*
   refine zrs ?_
   repeat'(first|(simp -implicitDefEqProofs only[*,QE,List.length_map,zr,seval,reduceIte,reduceCtorEq])|(refine zp ?_)|(refine zd ?_)|(refine cP (kV) ?_)|(refine cD (kV) ?_)|(refine cF (kV) ?_)|(refine cP (XT) ?_)|(refine cD (XT) ?_)|(refine cF (XT) ?_)|fail)
   refine⟨s+1,hlt,by omega,?_⟩
   refine wk_i ?_ ?_<;>simp only[zw,seval,reduceIte,reduceCtorEq]
   exact .inl hF3.out.symm
 ·obtain rfl:s=O.length:=by omega
  have h2:=lt_f hge
  have h3:=List.take_length (l:=O)
  clear hV hNil hStep hsz
  have hP0:Ue []=.fr 3 []:=rfl
  have c0:decide (((0:Nat):Int)=0)=true:=by decide
  rw[hP0]
  generalize hOO:XJ O=OO at*
  refine zrs ?_
  repeat'(first|(simp -implicitDefEqProofs only[*,QE,List.length_map,List.length_nil,zr,seval,reduceIte,reduceCtorEq])|(refine zp ?_)|(refine zd ?_)|(refine cP (kFi) ?_)|(refine cD (kFi) ?_)|(refine cF (kFi) ?_)|(refine cP (kS) ?_)|(refine cD (kS) ?_)|(refine cF (kS) ?_)|(refine cP (XT) ?_)|(refine cD (XT) ?_)|(refine cF (XT) ?_)|fail)
  exact VO
theorem law_f (l:List FT) (most:Int) (bk:List Int) (hb:∀ x∈l,x.1.length≤140737488355328∧x.2.2.length≤140737488355328) (hl:(l.length:Int)≤9223372036854775807) :
  FRet Tryz.prog 3 [.f (QY l),.f (.int .i64 most),.f (frI bk)] [.c (.v (.bool true))]:=by
 have kT:=TreeOf_z l hb hl (fun x hx hp w hw=>QCV hw hp)
 by_cases h0:ckF l=0
 case neg=>
  rw[if_pos h0]at kT
  exact law_no l most bk _ h0 kT
 rw[if_neg (fun h=>h h0)]at kT
 by_cases h1:4000<(objs l).length
 ·rw[if_pos h1]at kT
  exact law_no l most bk 2 (by decide) kT
 rw[if_neg h1]at kT
 obtain⟨hG,hs,hll,hby,hpt⟩:=QC7 h0
 have hz:Sz l:=⟨hll,hpt,hby⟩
 have kT2:=kT.frz (ys:=[.str (digV (txt digV 202 l)),XJ (objs l),.int .i64 0]) ⟨rfl,⟨(objs l).map fOb,rfl,by rw[List.length_map],fOb_rows,by
  rw[List.take_of_length_le (by rw[QD ZZ];exact Nat.le_refl _)];rfl⟩,rfl,rfl⟩
 have kF:=MQ l hG hs hz
 by_cases h2:Fai (cont digV 202 l)
 case neg=>
  rw[decide_eq_false h2]at kF
  exact law_un l most bk _ _ kT2 kF
 rw[decide_eq_true h2]at kF
 have hD:=objs_ok h0 (by omega)
 have kFi:=FilesOf_f l (objs l) h0 (by omega) (QAx l) (fun x hx=>by have:=(hD.ok x hx).2;omega) (WT.2 hD) (objs_all fun c hc c' hc' e=>h2 c hc c' hc' e)
 have kFi2:=kFi.frz (ys:=[QY l,.int .i64 0]) ⟨⟨l.map fFt,rfl,by rw[List.length_map],fFt_rows,by
  rw[List.take_of_length_le (by rw[QD Vc];exact Nat.le_refl _)];rfl⟩,rfl,rfl⟩
 exact law_main l most bk _ (objs l) hD kT2 kF kFi2 (QBq l (by omega))
end Go.Proofs.YtjfchihkhpinmaaGreatDoor
