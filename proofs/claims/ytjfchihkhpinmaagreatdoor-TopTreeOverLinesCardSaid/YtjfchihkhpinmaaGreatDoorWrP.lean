/-
  Receivers: data, and what is computed of them; plain law. No statement of the seat is proved here; no conditions.
-/
import Derived.Test.YtjfchihkhpinmaaGreatDoorOrd
import Derived.Test.YtjfchihkhpinmaaGreatDoorEngS
import Derived.Test.YtjfchihkhpinmaaGreatDoorDig
import Derived.Lib.SlTrimSet
namespace Go.Proofs.YtjfchihkhpinmaaGreatDoor
open Go.RowKit Go.Shelf
set_option linter.unusedVariables false
set_option linter.unusedSimpArgs false
set_option maxRecDepth 100000

theorem dcT {p:Prop} [Decidable p] (h:p):decide p=true:=decide_eq_true h
theorem dcF {p:Prop} [Decidable p] (h : ¬ p):decide p=false:=decide_eq_false h
def inRg (n l h:Int):Bool:=decide (l≤n)&&decide (n≤h)
theorem QCe {n l h:Int} : inRg n l h=true↔l≤n∧n≤h:=by unfold inRg;simp
def hexS:List UInt8:=[48,49,50,51,52,53,54,55,56,57,97,98,99,100,101,102]
def XZ (s:ByteArray):Bool:=s.size == 16&&(Lib.trimS s.data.toList hexS).isEmpty
abbrev Ob:=ByteArray × List UInt8
def fOb (x:Ob):List FV:=[.str x.1,frB x.2]
abbrev Pt:=ByteArray × Int × List UInt8
def fPt (p:Pt):List FV:=[.str p.1,.int .i64 p.2.1,frB p.2.2]
abbrev Rc:=List Ob × List Pt
abbrev Mg:=Int × ByteArray × Int × Int × List UInt8
def fMg (m:Mg):List FV:=[.int .i64 m.1,.str m.2.1,.int .i64 m.2.2.1,.int .i64 m.2.2.2.1,frB m.2.2.2.2]
def XJ (l:List Ob):FV:= .fr 2 (l.map fOb)
def Ue (l:List Pt):FV:= .fr 3 (l.map fPt)
def aRc (r:Rc):AV:= .agg [.f (XJ r.1),.f (Ue r.2)]
def aMg (m:Mg):AV:= .agg ((fMg m).map .f)
def kOb (x:Ob):ByteArray:=x.1
def kPt (x:Pt):ByteArray:=x.1
def QAz (l:List Ob) (i:Nat):Int:=match l[i]? with
 | none=>0
 | some x=>if x.1=digV x.2 then(if (2000000:Int)<x.2.length then 2 else Zt l i (fun e=>if leS x.1 e.1=true then 8 else 0))else 15
theorem QAy {l:List Ob}{i:Nat}{x:Ob}(h:l[i]? = some x):QAz l i=if x.1=digV x.2 then(if (2000000:Int)<x.2.length then 2 else Zt l i (fun e=>if leS x.1 e.1=true then 8 else 0))else 15:=by unfold QAz;rw[h]
def KC (l:List Ob):Int:=if (4000:Int)<l.length then 2 else XB (QAz l) 0 l.length
def NL (D:List Ob) (l:List Pt) (i:Nat):Int:=match l[i]? with
 | none=>0
 | some p=>if XZ p.1=true then(if inRg p.2.1 0 100000=true then(if p.2.1≤(p.2.2.length:Int)then 2 else if hasK kOb D p.1=true then 7 else Zt l i (fun e=>if leS p.1 e.1=true then 8 else 0))else 1)else 3
theorem MY {D:List Ob}{l:List Pt}{i:Nat}{p:Pt}(h:l[i]? = some p):NL D l i=if XZ p.1=true then(if inRg p.2.1 0 100000=true then(if p.2.1≤(p.2.2.length:Int)then 2 else if hasK kOb D p.1=true then 7 else Zt l i (fun e=>if leS p.1 e.1=true then 8 else 0))else 1)else 3:=by unfold NL;rw[h]
def ckRc (r:Rc):Int:=if KC r.1≠0 then KC r.1 else if (100:Int)<r.2.length then 2 else XB (NL r.1 r.2) 0 r.2.length
def ckMg (m:Mg) (many:Int):Int:=
 if inRg m.1 1 6=false then 4 else if XZ m.2.1=false then 3 else if (inRg m.2.2.1 0 2000000&&inRg m.2.2.2.1 0 2000000)=false then 1 else if 65536<many then 2
 else if (!(decide (m.1=2)||decide (m.1=3))&& !decide (m.2.2.1=0))=true then 3 else if (!decide (m.1=1)&& !decide (m.2.2.2.1=0))=true then 3 else if (decide (m.1=2) == decide (0<many))=false then 3 else 0
def KX (l:List Ob) (t:ByteArray):Nat:=YJ (fun b:Ob=>cmpB b.1 t) l
def Qc (l:List Pt) (t:ByteArray):Nat:=YJ (fun b:Pt=>cmpB b.1 t) l
theorem VJ {α : Type}{key : α→ByteArray}{l:List α}{t:ByteArray} : hasK key l t=false↔∀ x∈l,key x≠t:=by
 simp [hasK,List.any_eq_false]
theorem WK {α : Type}{key : α→ByteArray}{l:List α}{t:ByteArray} : hasK key l t=true↔∃ x∈l,key x=t:=by
 simp [hasK,List.any_eq_true]
theorem XM {α : Type}{key : α→ByteArray}{l:List α} : QZ key l↔l.Pairwise fun a b=>strLt (key a) (key b)=true:=by
 refine⟨fun h=> ?_,fun h=> ?_⟩
 ·rw[List.pairwise_iff_getElem]
  intro i j hi hj hij
  exact h i j _ _ hij (List.getElem?_eq_getElem hi) (List.getElem?_eq_getElem hj)
 ·have hr:=List.pairwise_iff_getElem.1 h
  intro i j a b hij ha hb
  obtain⟨k1,rfl⟩:=List.getElem?_eq_some_iff.1 ha
  obtain⟨k2,rfl⟩:=List.getElem?_eq_some_iff.1 hb
  exact hr i j k1 k2 hij
theorem Yv {α : Type}{key : α→ByteArray}{l:List α}(h:QZ key l) (x : α) (hn:hasK key l (key x)=false) :
  QZ key (l.take (YJ (fun b=>cmpB (key b) (key x)) l)++x::l.drop (YJ (fun b=>cmpB (key b) (key x)) l)):=by
 obtain⟨h1,h2,h3⟩:=bs_lt (cf:=fun b=>cmpB (key b) (key x)) (UV h (key x))
 generalize YJ (fun b=>cmpB (key b) (key x)) l=i at*
 have hne:=VJ.1 hn
 have hp:=XM.1 h
 refine XM.2 ?_
 rw[List.pairwise_append]
 refine⟨List.Pairwise.sublist (List.take_sublist _ _) hp,List.pairwise_cons.2 ⟨fun y hy=> ?_,List.Pairwise.sublist (List.drop_sublist _ _) hp⟩,fun a ha b hb=> ?_⟩
 ·obtain⟨m,hm⟩:=List.mem_iff_getElem?.1 hy
  rw[List.getElem?_drop]at hm
  have k:=h3 (i+m) y (by omega) hm
  have k2:=hne y (List.mem_of_getElem? hm)
  cases hl:strLt (key y) (key x)with
  | true=>exact absurd (Zg.2 hl) k
  | false=>exact(ZN hl).resolve_left k2
 ·obtain⟨m,hm⟩:=List.mem_iff_getElem?.1 ha
  have hlt:m<i:=by
   have:=(List.getElem?_eq_some_iff.1 hm).1
   rw[List.length_take]at this;omega
  rw[List.getElem?_take,if_pos hlt]at hm
  rcases List.mem_cons.1 hb with rfl|hb
  ·exact Zg.1 (h2 m a hlt hm)
  ·obtain⟨n,hn2⟩:=List.mem_iff_getElem?.1 hb
   rw[List.getElem?_drop]at hn2
   exact h m (i+n) a b (by omega) hm hn2
theorem bs_at {α : Type}{key : α→ByteArray}{l:List α}(h:QZ key l){t:ByteArray}(hk:hasK key l t=true):∃ x,l[YJ (fun b=>cmpB (key b) t) l]? = some x∧key x=t:=by
 have:=Kw h t
 rw[hk,Jz]at this
 cases hx:l[YJ (fun b=>cmpB (key b) t) l]? with
 | none=>rw[hx]at this;cases this
 | some x=>
  rw[hx]at this
  exact⟨x,rfl,QB8.1 (of_decide_eq_true this)⟩
theorem Yu {α : Type}{key : α→ByteArray}{l:List α}(h:QZ key l){i j:Nat}{x y : α}(hx:l[i]? = some x) (hy:l[j]? = some y) (he:key x=key y):i=j:=by
 rcases Nat.lt_trichotomy i j with h1|h1|h1
 ·have:=h i j x y h1 hx hy;rw[he,Qv]at this;cases this
 ·exact h1
 ·have:=h j i y x h1 hy hx;rw[he,Qv]at this;cases this

def mg0:Mg:=(0,⟨#[]⟩,0,0,[])
def insO (D:List Ob) (x:Ob):List Ob:=D.take (KX D x.1)++x::D.drop (KX D x.1)
def insP (P:List Pt) (x:Pt):List Pt:=P.take (Qc P x.1)++x::P.drop (Qc P x.1)
def delP (P:List Pt) (t:ByteArray):List Pt:=P.take (Qc P t)++P.drop (Qc P t+1)
def pGet (P:List Pt) (t:ByteArray):Option Pt:=if hasK kPt P t=true then P[Qc P t]? else none
abbrev TR:=Int × Rc × Mg
def VB (D:List Ob) (P:List Pt) (t:ByteArray) (b:List UInt8):TR:=
 if digV b=t then(if 4000≤D.length then(16,(D,P),mg0)else(0,(insO D (t,b),P),(4,t,0,0,[])))else(0,(D,P),(5,t,0,0,[]))
def beg2 (D:List Ob) (P:List Pt) (t:ByteArray) (size:Int):TR:=
 if size=0 then VB D P t []else if 100≤P.length then(16,(D,P),mg0)else if 100000<size then(1,(D,P),mg0)else(0,(D,insP P (t,size,[])),(3,t,0,0,[]))
def Xv (D:List Ob) (P:List Pt) (t:ByteArray) (size:Int):TR:=match pGet P t with
 | none=>beg2 D P t size
 | some p=>if p.2.1=size then(0,(D,P),(3,t,p.2.2.length,0,[]))else beg2 D (delP P t) t size
def Zw (D:List Ob) (P:List Pt) (p:Pt) (t:ByteArray) (fr:Int) (b:List UInt8):TR:=
 if (p.2.2.length:Int)<fr then(8,(D,P),mg0)
 else if b.take (min b.length (p.2.2.length - fr.toNat))=(p.2.2.drop fr.toNat).take (min b.length (p.2.2.length - fr.toNat))then
  (if p.2.1<fr+b.length then(2,(D,P),mg0)
   else if ((p.2.2++b.drop (min b.length (p.2.2.length - fr.toNat))).length:Int)<p.2.1 then
    (0,(D,P.set (Qc P t) (t,p.2.1,p.2.2++b.drop (min b.length (p.2.2.length - fr.toNat)))),(3,t,((p.2.2++b.drop (min b.length (p.2.2.length - fr.toNat))).length:Int),0,[]))
   else VB D (delP P t) t (p.2.2++b.drop (min b.length (p.2.2.length - fr.toNat))))
 else(12,(D,P),mg0)
def VC (D:List Ob) (P:List Pt) (m:Mg):TR:=
 if ckMg m m.2.2.2.2.length≠0 then(ckMg m m.2.2.2.2.length,(D,P),mg0)
 else if m.1≠1∧m.1≠2∧m.1≠6 then(4,(D,P),mg0)
 else if hasK kOb D m.2.1=true then(0,(D,P),(4,m.2.1,0,0,[]))
 else if m.1=1 then Xv D P m.2.1 m.2.2.2.1
 else match pGet P m.2.1 with
  | none=>(9,(D,P),mg0)
  | some p=>if m.1=2 then Zw D P p m.2.1 m.2.2.1 m.2.2.2.2 else(0,(D,P),(3,m.2.1,p.2.2.length,0,[]))
def YY (r:Rc) (m:Mg):TR:=
 if ckRc r≠0 then(ckRc r,([],[]),mg0)else if (VC r.1 r.2 m).1≠0 then((VC r.1 r.2 m).1,([],[]),mg0)else VC r.1 r.2 m
structure DOk (D:List Ob):Prop where
 len:D.length≤4000
 ok:∀ x∈D,x.1=digV x.2∧x.2.length≤2000000
 rise:QZ kOb D
structure POk (D:List Ob) (P:List Pt):Prop where
 len:P.length≤100
 ok:∀ p∈P,XZ p.1=true∧0≤p.2.1∧p.2.1≤100000∧(p.2.2.length:Int)<p.2.1∧hasK kOb D p.1=false
 rise:QZ kPt P
structure ROk (r:Rc):Prop where
 d:DOk r.1
 p:POk r.1 r.2
theorem NN {D:List Ob}{i:Nat}{x:Ob}(hx:D[i]? = some x):QAz D i=0↔(x.1=digV x.2∧x.2.length≤2000000)∧Zt D i (fun e=>if leS x.1 e.1=true then 8 else 0)=0:=by
 rw[QAy hx]
 by_cases h1:x.1=digV x.2
 ·rw[if_pos h1]
  by_cases h2:(2000000:Int)<x.2.length
  ·rw[if_pos h2];simp;omega
  ·rw[if_neg h2];simp [h1];intro;omega
 ·rw[if_neg h1];simp [h1]
theorem KG {D:List Ob}{P:List Pt}{i:Nat}{p:Pt}(hx:P[i]? = some p):NL D P i=0↔(XZ p.1=true∧0≤p.2.1∧p.2.1≤100000∧(p.2.2.length:Int)<p.2.1∧hasK kOb D p.1=false)∧Zt P i (fun e=>if leS p.1 e.1=true then 8 else 0)=0:=by
 rw[MY hx]
 by_cases h1:XZ p.1=true
 ·rw[if_pos h1]
  by_cases h2:inRg p.2.1 0 100000=true
  ·rw[if_pos h2]
   have h2':=QCe.1 h2
   by_cases h3:p.2.1≤(p.2.2.length:Int)
   ·rw[if_pos h3];simp;omega
   ·rw[if_neg h3]
    by_cases h4:hasK kOb D p.1=true
    ·rw[if_pos h4];simp [h4]
    ·rw[if_neg h4]
     have h4':hasK kOb D p.1=false:=by simpa using h4
     exact⟨fun h=>⟨⟨h1,h2'.1,h2'.2,by omega,h4'⟩,h⟩,fun h=>h.2⟩
  ·rw[if_neg h2]
   have : ¬ (0≤p.2.1∧p.2.1≤100000):=fun h=>h2 (QCe.2 h)
   simp;intro _ h5 h6;exact absurd ⟨h5,h6⟩ this
 ·rw[if_neg h1];simp [h1]
theorem QAn {α : Type}{key : α→ByteArray}{l:List α}(h:∀ i x,l[i]? = some x→Zt l i (fun e=>if leS (key x) (key e)=true then 8 else 0)=0):QZ key l:=QAh fun i x y hx hy=>
 QBB (MX (p:=fun e=>leS (key y) (key e)) hx (by decide) (h (i+1) y hy))
theorem QAi {α : Type}{key : α→ByteArray}{l:List α}(h:QZ key l){i:Nat}{x : α}(hx:l[i]? = some x):Zt l i (fun e=>if leS (key x) (key e)=true then(8:Int)else 0)=0:=by
 unfold Zt
 split
 ·rfl
 ·split
  ·rename_i y hy
   have h1:=h (i - 1) i y x (by omega) hy hx
   show(if leS (key x) (key y)=true then(8:Int)else 0)=0
   rw[if_neg]
   intro h2
   unfold leS at h2
   rw[Bool.or_eq_true,decide_eq_true_eq]at h2
   rcases h2 with h2|h2
   ·have:=XS h1 h2;rw[Qv]at this;cases this
   ·rw[← h2,Qv]at h1;cases h1
  ·rfl
theorem QCz {f:Nat→Int}{n:Nat} : XB f 0 n=0↔∀ m,m<n→f m=0:=⟨fe_zero,QAC⟩
theorem WT {D:List Ob} : KC D=0↔DOk D:=by
 unfold KC
 refine⟨fun h=> ?_,fun h=> ?_⟩
 ·split at h
  ·cases h
  rename_i h1
  have h2:=QCz.1 h
  have h3:∀ (i:Nat) (x:Ob),D[i]? = some x→(x.1=digV x.2∧x.2.length≤2000000)∧Zt D i (fun e=>if leS x.1 e.1=true then 8 else 0)=0:=fun i x hx=>(NN hx).1 (h2 i (List.getElem?_eq_some_iff.1 hx).1)
  exact⟨by omega,fun x hx=>by obtain⟨i,hi⟩:=List.mem_iff_getElem?.1 hx;exact(h3 i x hi).1,QAn fun i x hx=>(h3 i x hx).2⟩
 ·rw[if_neg (by have:=h.len;omega)]
  refine QCz.2 fun m hm=> ?_
  exact(NN (List.getElem?_eq_getElem hm)).2 ⟨h.ok _ (List.getElem_mem hm),QAi h.rise (List.getElem?_eq_getElem hm)⟩
theorem WS {r:Rc} : ckRc r=0↔ROk r:=by
 unfold ckRc
 refine⟨fun h=> ?_,fun h=> ?_⟩
 ·split at h
  ·rename_i h1;exact absurd h h1
  rename_i h1
  split at h
  ·cases h
  rename_i h2
  have hD:=WT.1 (by simpa using h1)
  have h3:=QCz.1 h
  have h4:=fun (i:Nat) (x:Pt) (hx:r.2[i]? = some x)=>(KG hx).1 (h3 i (List.getElem?_eq_some_iff.1 hx).1)
  exact⟨hD,by omega,fun x hx=>by obtain⟨i,hi⟩:=List.mem_iff_getElem?.1 hx;exact(h4 i x hi).1,QAn fun i x hx=>(h4 i x hx).2⟩
 ·rw[if_neg (by rw[WT.2 h.d];decide),if_neg (by have:=h.p.len;omega)]
  refine QCz.2 fun m hm=> ?_
  exact(KG (List.getElem?_eq_getElem hm)).2 ⟨h.p.ok _ (List.getElem_mem hm),QAi h.p.rise (List.getElem?_eq_getElem hm)⟩
theorem Zh {α : Type}{key : α→ByteArray}{l:List α}(h:QZ key l) (t:ByteArray):YJ (fun b=>cmpB (key b) t) l≤l.length:=(bs_lt (cf:=fun b=>cmpB (key b) t) (UV h t)).1
theorem Oe {D:List Ob}{x y:Ob} : y∈insO D x↔y=x∨y∈D:=by
 unfold insO
 rw[List.mem_append,List.mem_cons]
 conv=>rhs;rw[← List.take_append_drop (KX D x.1) D,List.mem_append]
 constructor
 ·rintro(h|h|h)<;>simp [h]
 ·rintro(h|h|h)<;>simp [h]
theorem Km {P:List Pt}{x y:Pt} : y∈insP P x↔y=x∨y∈P:=by
 unfold insP
 rw[List.mem_append,List.mem_cons]
 conv=>rhs;rw[← List.take_append_drop (Qc P x.1) P,List.mem_append]
 constructor
 ·rintro(h|h|h)<;>simp [h]
 ·rintro(h|h|h)<;>simp [h]
theorem XO {P:List Pt}(h:QZ kPt P){t:ByteArray}{p:Pt}(hp:pGet P t=some p):P[Qc P t]? = some p∧p.1=t∧hasK kPt P t=true:=by
 unfold pGet at hp
 split at hp
 ·rename_i hk
  obtain⟨x,h1,h2⟩:=bs_at h hk
  have h1':P[Qc P t]? = some x:=h1
  rw[h1']at hp
  obtain rfl:=Option.some.inj hp
  exact⟨h1',h2,hk⟩
 ·cases hp
theorem JC {P:List Pt}(h:QZ kPt P){t:ByteArray}(hp:pGet P t=none):hasK kPt P t=false:=by
 cases hk:hasK kPt P t with
 | false=>rfl
 | true=>
  obtain⟨x,h1,_⟩:=bs_at h hk
  have h1':P[Qc P t]? = some x:=h1
  unfold pGet at hp
  rw[if_pos hk,h1']at hp
  cases hp
theorem pGet_of {P:List Pt}(h:QZ kPt P){p:Pt}(hp:p∈P):pGet P p.1=some p:=by
 have hk:hasK kPt P p.1=true:=WK.2 ⟨p,hp,rfl⟩
 obtain⟨x,h1,h2⟩:=bs_at h hk
 have h1':P[Qc P p.1]? = some x:=h1
 obtain⟨m,hm⟩:=List.mem_iff_getElem?.1 hp
 have:=Yu h h1 hm h2
 unfold pGet
 rw[if_pos hk,show Qc P p.1=m from this,hm]
theorem mem_delP {P:List Pt}{t:ByteArray}{y:Pt}(h:y∈delP P t):y∈P:=by
 unfold delP at h
 rcases List.mem_append.1 h with h|h
 ·exact List.mem_of_mem_take h
 ·exact List.mem_of_mem_drop h
theorem delP_sub {P:List Pt}{t:ByteArray} : (delP P t).Sublist P:=by
 unfold delP
 conv=>rhs;rw[← List.take_append_drop (Qc P t) P]
 refine List.Sublist.append (List.Sublist.refl _) ?_
 rw[← List.drop_drop]
 exact List.drop_sublist _ _
theorem Ja {P:List Pt}(h:QZ kPt P){t:ByteArray}{p:Pt}(hp:P[Qc P t]? = some p) (ht:p.1=t):hasK kPt (delP P t) t=false:=by
 refine VJ.2 fun y hy=> ?_
 unfold delP at hy
 have hne:∀ (m:Nat) z,P[m]? = some z→m≠Qc P t→kPt z≠t:=fun m z hz hm he=>hm (Yu h hz hp (by show kPt z=p.1;rw[ht];exact he))
 rcases List.mem_append.1 hy with hy|hy
 ·obtain⟨m,hm⟩:=List.mem_iff_getElem?.1 hy
  have hlt:=(List.getElem?_eq_some_iff.1 hm).1
  rw[List.length_take]at hlt
  rw[List.getElem?_take,if_pos (by omega)]at hm
  exact hne m y hm (by omega)
 ·obtain⟨m,hm⟩:=List.mem_iff_getElem?.1 hy
  rw[List.getElem?_drop]at hm
  exact hne _ y hm (by omega)
theorem POk.del {D:List Ob}{P:List Pt}(h:POk D P) (t:ByteArray):POk D (delP P t):=
 ⟨Nat.le_trans delP_sub.length_le h.len,fun p hp=>h.ok p (mem_delP hp),XM.2 (List.Pairwise.sublist delP_sub (XM.1 h.rise))⟩
theorem DOk.ins {D:List Ob}(h:DOk D){t:ByteArray}{b:List UInt8}(hl:D.length<4000) (hn:hasK kOb D t=false) (hd:digV b=t) (hb:b.length≤2000000):DOk (insO D (t,b)):=by
 have hle:KX D t≤D.length:=Zh h.rise t
 refine⟨?_,fun x hx=> ?_,Yv h.rise (t,b) hn⟩
 ·unfold insO;rw[List.length_append,List.length_take,List.length_cons,List.length_drop];simp only;omega
 ·rcases Oe.1 hx with rfl|hx
  ·exact⟨hd.symm,hb⟩
  ·exact h.ok x hx
theorem hasK_insO {D:List Ob}{x:Ob}{t:ByteArray}(h:hasK kOb D t=false) (hne:x.1≠t):hasK kOb (insO D x) t=false:=by
 refine VJ.2 fun y hy=> ?_
 rcases Oe.1 hy with rfl|hy
 ·exact hne
 ·exact VJ.1 h y hy
theorem POk.ins {D:List Ob}{P:List Pt}(h:POk D P){t:ByteArray}{b:List UInt8}(hn:hasK kPt P t=false):POk (insO D (t,b)) P:=
 ⟨h.len,fun p hp=>by
  obtain⟨h1,h2,h3,h4,h5⟩:=h.ok p hp
  exact⟨h1,h2,h3,h4,hasK_insO h5 fun e=>VJ.1 hn p hp e.symm⟩,h.rise⟩
theorem POk.new {D:List Ob}{P:List Pt}(h:POk D P){t:ByteArray}{size:Int}(hl:P.length<100) (hn:hasK kPt P t=false) (ho:hasK kOb D t=false) (hd:XZ t=true) (h1:0<size) (h2:size≤100000):POk D (insP P (t,size,[])):=by
 have hle:Qc P t≤P.length:=Zh h.rise t
 refine⟨?_,fun x hx=> ?_,Yv h.rise (t,size,[]) hn⟩
 ·unfold insP;rw[List.length_append,List.length_take,List.length_cons,List.length_drop];simp only;omega
 ·rcases Km.1 hx with rfl|hx
  ·exact⟨hd,by show(0:Int)≤size;omega,h2,by show((0:Nat):Int)<size;omega,ho⟩
  ·exact h.ok x hx
theorem Wh {α : Type}{key : α→ByteArray}{l:List α}(h:QZ key l){i:Nat}{x y : α}(hx:l[i]? = some x) (he:key y=key x):QZ key (l.set i y):=by
 intro a b u v hab hu hv
 have hil:=(List.getElem?_eq_some_iff.1 hx).1
 rw[List.getElem?_set]at hu hv
 by_cases e1:i=a<;>by_cases e2:i=b
 ·omega
 ·subst e1
  rw[if_pos rfl,if_pos hil]at hu
  rw[if_neg e2]at hv
  obtain rfl:=Option.some.inj hu
  rw[he];exact h i b x v hab hx hv
 ·subst e2
  rw[if_pos rfl,if_pos hil]at hv
  rw[if_neg e1]at hu
  obtain rfl:=Option.some.inj hv
  rw[he];exact h a i u x hab hu hx
 ·rw[if_neg e1]at hu
  rw[if_neg e2]at hv
  exact h a b u v hab hu hv
theorem POk.set {D:List Ob}{P:List Pt}(h:POk D P){t:ByteArray}{p:Pt}(hp:P[Qc P t]? = some p) (ht:p.1=t){b:List UInt8}(hb:(b.length:Int)<p.2.1):POk D (P.set (Qc P t) (t,p.2.1,b)):=by
 have hm:=h.ok p (List.mem_of_getElem? hp)
 refine⟨by rw[List.length_set];exact h.len,fun x hx=> ?_,Wh h.rise hp (by show t=p.1;exact ht.symm)⟩
 rcases List.mem_or_eq_of_mem_set hx with hx|rfl
 ·exact h.ok x hx
 ·exact⟨by show XZ t=true;rw[← ht];exact hm.1,hm.2.1,hm.2.2.1,hb,by show hasK kOb D t=false;rw[← ht];exact hm.2.2.2.2⟩
structure TOk (D:List Ob) (t:ByteArray) (q:TR):Prop where
 ok:ROk q.2.1
 dig:q.2.2.2.1=t
 sub:∀ o∈D,o∈q.2.1.1
theorem QCM {D:List Ob}{P:List Pt}{t:ByteArray}{b:List UInt8}(hD:DOk D) (hP:POk D P) (ho:hasK kOb D t=false) (hn:hasK kPt P t=false) (hb:b.length≤2000000) (h0:(VB D P t b).1=0):TOk D t (VB D P t b):=by
 unfold VB at h0 ⊢
 split
 ·rename_i hd
  rw[if_pos hd]at h0
  split
  ·rename_i hl;rw[if_pos hl]at h0;cases h0
  ·rename_i hl
   exact⟨⟨hD.ins (by omega) ho hd hb,hP.ins hn⟩,rfl,fun o hm=>Oe.2 (.inr hm)⟩
 ·exact⟨⟨hD,hP⟩,rfl,fun o hm=>hm⟩
theorem beg2_ok {D:List Ob}{P:List Pt}{t:ByteArray}{size:Int}(hD:DOk D) (hP:POk D P) (ho:hasK kOb D t=false) (hn:hasK kPt P t=false) (hd:XZ t=true) (hs:0≤size) (h0:(beg2 D P t size).1=0):TOk D t (beg2 D P t size):=by
 unfold beg2 at h0 ⊢
 split
 ·rename_i h1
  rw[if_pos h1]at h0
  exact QCM hD hP ho hn (by simp) h0
 ·rename_i h1
  rw[if_neg h1]at h0
  split
  ·rename_i h2;rw[if_pos h2]at h0;cases h0
  ·rename_i h2
   rw[if_neg h2]at h0
   split
   ·rename_i h3;rw[if_pos h3]at h0;cases h0
   ·rename_i h3
    exact⟨⟨hD,hP.new (by omega) hn ho hd (by omega) (by omega)⟩,rfl,fun o hm=>hm⟩
theorem begin_ok {D:List Ob}{P:List Pt}{t:ByteArray}{size:Int}(hD:DOk D) (hP:POk D P) (ho:hasK kOb D t=false) (hd:XZ t=true) (hs:0≤size) (h0:(Xv D P t size).1=0):TOk D t (Xv D P t size):=by
 unfold Xv at h0 ⊢
 split
 ·rename_i hg
  rw[hg]at h0
  exact beg2_ok hD hP ho (JC hP.rise hg) hd hs h0
 ·rename_i p hg
  rw[hg]at h0
  obtain⟨h1,h2,h3⟩:=XO hP.rise hg
  simp only at h0
  split
  ·exact⟨⟨hD,hP⟩,rfl,fun o hm=>hm⟩
  ·rename_i h4
   rw[if_neg h4]at h0
   exact beg2_ok hD (hP.del t) ho (Ja hP.rise h1 h2) hd hs h0
theorem data_ok {D:List Ob}{P:List Pt}{p:Pt}{t:ByteArray}{fr:Int}{b:List UInt8}(hD:DOk D) (hP:POk D P) (ho:hasK kOb D t=false) (hp:P[Qc P t]? = some p) (ht:p.1=t) (hf:0≤fr) (h0:(Zw D P p t fr b).1=0):TOk D t (Zw D P p t fr b):=by
 have hm:=hP.ok p (List.mem_of_getElem? hp)
 unfold Zw at h0 ⊢
 split
 ·rename_i h1;rw[if_pos h1]at h0;cases h0
 rename_i h1
 rw[if_neg h1]at h0
 split
 ·rename_i h2
  rw[if_pos h2]at h0
  split
  ·rename_i h3;rw[if_pos h3]at h0;cases h0
  rename_i h3
  rw[if_neg h3]at h0
  split
  ·rename_i h4
   exact⟨⟨hD,hP.set hp ht h4⟩,rfl,fun o hm=>hm⟩
  ·rename_i h4
   rw[if_neg h4]at h0
   refine QCM hD (hP.del t) ho (Ja hP.rise hp ht) ?_ h0
   rw[List.length_append,List.length_drop]
   omega
 ·rename_i h2;rw[if_neg h2]at h0;cases h0
theorem QDl {m:Mg}{many:Int}(h:ckMg m many=0):XZ m.2.1=true∧0≤m.2.2.1∧0≤m.2.2.2.1:=by
 unfold ckMg at h
 split at h
 ·cases h
 split at h
 ·cases h
 rename_i h2
 split at h
 ·cases h
 rename_i h3
 simp only[Bool.not_eq_false,Bool.and_eq_true]at h2 h3
 exact⟨h2,(QCe.1 h3.1).1,(QCe.1 h3.2).1⟩
theorem take_ok {D:List Ob}{P:List Pt}{m:Mg}(h:ROk (D,P)) (h0:(VC D P m).1=0):TOk D m.2.1 (VC D P m):=by
 obtain⟨hD,hP⟩:=h
 simp only at hD hP
 unfold VC at h0 ⊢
 split
 ·rename_i h1;rw[if_pos h1]at h0;exact absurd h0 h1
 rename_i h1
 rw[if_neg h1]at h0
 obtain⟨c1,c2,c3⟩:=QDl (by simpa using h1)
 split
 ·rename_i h2;rw[if_pos h2]at h0;cases h0
 rename_i h2
 rw[if_neg h2]at h0
 split
 ·exact⟨⟨hD,hP⟩,rfl,fun o hm=>hm⟩
 rename_i h3
 rw[if_neg h3]at h0
 have ho:hasK kOb D m.2.1=false:=by simpa using h3
 split
 ·rename_i h4
  rw[if_pos h4]at h0
  exact begin_ok hD hP ho c1 c3 h0
 rename_i h4
 rw[if_neg h4]at h0
 split
 ·rename_i hg;rw[hg]at h0;cases h0
 ·rename_i p hg
  rw[hg]at h0
  obtain⟨g1,g2,g3⟩:=XO hP.rise hg
  simp only at h0
  split
  ·rename_i h5
   rw[if_pos h5]at h0
   exact data_ok hD hP ho g1 g2 c2 h0
  ·exact⟨⟨hD,hP⟩,rfl,fun o hm=>hm⟩
theorem KE {r:Rc}{m:Mg}(h0:(YY r m).1=0):ROk r∧YY r m=VC r.1 r.2 m∧TOk r.1 m.2.1 (YY r m):=by
 unfold YY at h0 ⊢
 by_cases h1:ckRc r≠0
 ·rw[if_pos h1]at h0;exact absurd h0 h1
 rw[if_neg h1]at h0 ⊢
 have hr:=WS.1 (by simpa using h1)
 by_cases h2:(VC r.1 r.2 m).1≠0
 ·rw[if_pos h2]at h0;exact absurd h0 h2
 rw[if_neg h2]
 exact⟨hr,rfl,take_ok hr (by simpa using h2)⟩
end Go.Proofs.YtjfchihkhpinmaaGreatDoor
