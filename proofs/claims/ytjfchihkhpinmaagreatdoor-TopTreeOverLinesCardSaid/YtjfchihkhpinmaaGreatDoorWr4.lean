/-
  A copy of a receiver, one of whose parts keeps its bytes as one's own. No statement of the seat is proved here; no conditions.
-/
import Derived.Test.YtjfchihkhpinmaaGreatDoorWr2
import Derived.Test.YtjfchihkhpinmaaGreatDoorHi2
namespace Go.Proofs.YtjfchihkhpinmaaGreatDoor
open Go.RowKit Go.Shelf
set_option linter.unusedVariables false
set_option linter.unusedSimpArgs false
set_option maxRecDepth 100000

def fPtA (a:Nat→AV) (t:ByteArray) (p:Pt):List AV:=[.f (.str p.1),.f (.int .i64 p.2.1),if p.1=t then a p.2.2.length else .f (frB p.2.2)]
def rowA (a:Nat→AV) (t:ByteArray) (P:List Pt):List AV:=P.flatMap (fPtA a t)
def yOf (t:ByteArray) (P:List Pt):List UInt8:=match P.find? (fun p=>decide (p.1=t))with
 | some p=>p.2.2
 | none=>[]
def frY (l:List UInt8):List AV:=(rowF encU l).map .f
theorem Kj {a:Nat→AV}{t:ByteArray}{P Q:List Pt} : rowA a t (P++Q)=rowA a t P++rowA a t Q:=by unfold rowA;rw[List.flatMap_append]
theorem Vt {a:Nat→AV}{t:ByteArray}{p:Pt}{P:List Pt} : rowA a t (p::P)=fPtA a t p++rowA a t P:=rfl
theorem Ji {a:Nat→AV}{t:ByteArray} : ∀ P:List Pt,(rowA a t P).length=P.length*3
 | []=>rfl
 | p::P=>by rw[Vt,List.length_append,Ji P,List.length_cons];simp [fPtA];omega
theorem VM {a:Nat→AV}{t:ByteArray} : ∀ {P:List Pt},hasK kPt P t=false→rowA a t P=(rowF fPt P).map .f
 | [],_=>rfl
 | p::P,h=>by
  have h1:=VJ.1 h
  rw[Vt,VM (VJ.2 fun x hx=>h1 x (List.mem_cons_of_mem _ hx)),Qr,List.map_append]
  congr 1
  unfold fPtA
  rw[if_neg (show ¬ p.1=t from fun e=>h1 p List.mem_cons_self e)]
  rfl
theorem Uo {τ : Turn}{a a':Nat→AV}{t:ByteArray}(h:∀ n,(a n).turn τ = a' n):∀ P:List Pt,AV.turnL τ (rowA a t P)=rowA a' t P
 | []=>rfl
 | p::P=>by
  rw[AV.turnL_eq,Vt,Vt,List.map_append,← AV.turnL_eq,← AV.turnL_eq,Uo h P]
  congr 1
  unfold fPtA
  split
  ·simp only[AV.turnL_eq,List.map_cons,List.map_nil,h];rfl
  ·simp only[AV.turnL_eq,List.map_cons,List.map_nil];rfl
theorem ZP {H H':Heap}{nw:List Nat}{a a':Nat→AV}{t:ByteArray}(h:∀ n,SlotOk H H' nw (a n) (a' n)):∀ P:List Pt,SlotsOk H H' nw (rowA a t P) (rowA a' t P)
 | []=>by simp [rowA,SlotsOk]
 | p::P=>by
  rw[Vt,Vt]
  refine SlotsOk.app ?_ (ZP h P)
  unfold fPtA
  split
  ·exact⟨.inl rfl,.inl rfl,h _,rfl⟩
  ·exact⟨.inl rfl,.inl rfl,.inl rfl,rfl⟩
theorem Vs {H H':Heap}{nw:List Nat}{l:List FV} : SlotsOk H H' nw (l.map .f) (l.map .f):=SlotsOk.of_eq rfl
theorem QBr {a:Nat→AV}{t:ByteArray}{P:List Pt}{s:Nat}{x:Pt}(h:P[s]? = some x):rowA a t (P.take (s+1))=rowA a t (P.take s)++fPtA a t x∧P.drop s=x::P.drop (s+1)∧(rowA a t (P.take s)).length=s*3:=by
 have hl:=(List.getElem?_eq_some_iff.1 h).1
 refine⟨?_,?_,?_⟩
 ·rw[List.take_add_one,h,Kj];simp [rowA]
 ·rw[List.drop_eq_getElem_cons hl,(List.getElem?_eq_some_iff.1 h).2]
 ·rw[Ji,List.length_take,Nat.min_eq_left (by omega)]
theorem yOf_snoc {t:ByteArray}{P:List Pt}{s:Nat}{x:Pt}(h:P[s]? = some x):yOf t (P.take (s+1))=if hasK kPt (P.take s) t=true then yOf t (P.take s)else if x.1=t then x.2.2 else []:=by
 unfold yOf
 rw[List.take_add_one,h,List.find?_append]
 cases hf:(P.take s).find? (fun p=>decide (p.1=t))with
 | some p=>
  have hm:=List.mem_of_find?_eq_some hf
  have hk:=List.find?_some hf
  rw[if_pos ((WK (key:=kPt)).2 ⟨p,hm,of_decide_eq_true hk⟩)]
  rfl
 | none=>
  rw[if_neg (by
   intro hk
   obtain⟨p,hp,he⟩:=WK.1 hk
   have:=List.find?_eq_none.1 hf p hp
   exact this (decide_eq_true he))]
  by_cases e:x.1=t
  ·simp [e]
  ·simp [e]
theorem ZL {t:ByteArray}{P:List Pt}(h:hasK kPt P t=false):yOf t P = []:=by
 unfold yOf
 rw[List.find?_eq_none.2 fun p hp=>by rw[decide_eq_true_eq];exact VJ.1 h p hp]
def hiRc (D:List Ob) (P:List Pt) (t:ByteArray) (v2 v3 v4:Nat):List (Nat × Nat × AObj):=
 [(100002,v2,.cells ((rowF fOb D).map .f)),(100101,v3,.cells (rowA (fun n=> .sl 100102 v4 1 0 n) t P)),(100102,v4,.cells (frY (yOf t P)))]
theorem WR (l:List UInt8) (hl:l.length≤100000000):FRet Tryz.prog 50 [.f (frB l)] [.c (.v (frB l))]:=
 (QC6 l hl).frz (ys:=[frB l]) ⟨⟨l.map encU,rfl,List.length_map _,fun r hr=>by obtain⟨y,_,rfl⟩:=List.mem_map.1 hr;rfl,by
  rw[Nat.mul_one,List.take_of_length_le (by rw[QD (sz:=1) (fun _=>rfl)];omega)];rfl⟩,rfl⟩
theorem ob_cells {D:List Ob}{s:Nat}{x:Ob}(hx:D[s]? = some x):((rowF fOb D).map AV.f)[s*2+1]? = some (.f (frB x.2))∧((rowF fOb D).map AV.f).set (s*2+1) (.f (frB x.2))=(rowF fOb D).map AV.f∧(s*2+1+1≤(rowF fOb D).length)=True:=by
 have hlt:=(List.getElem?_eq_some_iff.1 hx).1
 refine⟨Jh (enc:=fOb) (sz:=2) (j:=1) (fun _=>rfl) hx rfl,?_,?_⟩
 ·have:=row_set1 (enc:=fOb) (sz:=2) (j:=1) (y:=x) (v:=frB x.2) (fun _=>rfl) hx (by decide) rfl
  rw[QCW]at this
  rw[this]
  have e:D.set s x=D:=by
   refine List.ext_getElem? fun i=> ?_
   rw[List.getElem?_set]
   split
   ·rename_i e;subst e;rw[hx]
   ·rfl
  rw[e]
 ·rw[eq_iff_iff,iff_true,QD (sz:=2) (fun _=>rfl)];omega
theorem tl_app {τ : Turn}{l m:List AV} : AV.turnL τ (l++m)=AV.turnL τ l++AV.turnL τ m:=by simp only[AV.turnL_eq,List.map_append]
theorem rowA_nil {a:Nat→AV}{t:ByteArray} : rowA a t [] = []:=rfl
theorem yOf_nil {t:ByteArray} : yOf t [] = []:=rfl
theorem frY_nil:frY [] = []:=rfl
theorem pt_cells {a:Nat→AV}{t:ByteArray}{P:List Pt}{s:Nat}{x:Pt}(hx:P[s]? = some x):∃ A B,rowA a t (P.take s)=A∧(rowF fPt (P.drop (s+1))).map AV.f=B∧rowA a t (P.take s)++(rowF fPt (P.drop s)).map AV.f=A++((fPt x).map AV.f++B)∧rowA a t (P.take (s+1))++(rowF fPt (P.drop (s+1))).map AV.f=A++(fPtA a t x++B)∧
  (A++((fPt x).map AV.f++B))[s*3+2]? = some (AV.f (frB x.2.2))∧(∀ v,(A++((fPt x).map AV.f++B)).set (s*3+2) v=A++([AV.f (.str x.1),AV.f (.int .i64 x.2.1),v]++B))∧(s*3+2+1≤(A++((fPt x).map AV.f++B)).length)=True:=by
 obtain⟨q1,q2,q3⟩:=QBr (a:=a) (t:=t) hx
 refine⟨_,_,rfl,rfl,?_,?_,?_,fun v=> ?_,?_⟩
 ·rw[q2,Qr,List.map_append]
 ·rw[q1,List.append_assoc]
 ·rw[List.getElem?_append_right (by omega),q3,Nat.add_sub_cancel_left];rfl
 ·rw[List.set_append_right _ _ (by omega),q3,Nat.add_sub_cancel_left];rfl
 ·rw[eq_iff_iff,iff_true,List.length_append,q3,List.length_append];simp [fPt];omega
theorem own_hi (D:List Ob) (P:List Pt) (t:ByteArray) (hD:D.length≤1000000) (hP:P.length≤1000000) (hr:∀ x∈D,x.2.length≤100000000) (hp:∀ x∈P,x.2.2.length≤100000000) (hR:QZ kPt P) :
  FHi Tryz.prog 23 [aRc (D,P)] [] (fun r hl=>r=.agg [.sl 100002 1 2 0 D.length,.sl 100101 1 3 0 P.length]∧hl=hiRc D P t 1 1 1):=by
 have hr':=hide hr
 have hp':=hide hp
 have hR':=hide hR
 clear hr hp hR
 refine FCall.mv (FCall.of_ax QA6 ?_)
 dsimp only[jm,ji,jf,jl,jL,jn,je,jx,jT,jC,jB,jq,jt,ju,jA,km,kf,kl,kn,kx,Mf,aRc,XJ,Ue]
 refine zrs ?_
 repeat'(first|(simp -implicitDefEqProofs only[*,QE,zr,seval,reduceIte,reduceCtorEq])|(apply zk<;>intro hc)|(refine zp ?_)|(refine zd ?_)|(refine cP (Kv D hD) ?_)|(refine cD (Kv D hD) ?_)|(refine cF (Kv D hD) ?_)|(refine cO (Kv D hD) ?_)|(refine cP (Ku P hP) ?_)|(refine cD (Ku P hP) ?_)|(refine cF (Ku P hP) ?_)|(refine cO (Ku P hP) ?_)|fail)
 refine QK (S:=Nat) 52 [1,2,15] [1,2,10] (fun s=>[(16,.f (.int .i64 s))]) (fun s=>[(7,1,(rowF fOb D).map AV.f)]) (fun s=>s≤D.length) (fun s=>D.length - s) (0) [] ?_ ?_ fun s hs=> ?_
 ·exact Nat.zero_le _
 ·refine wk_i ?_ ?_<;>simp only[zw,seval,reduceIte,reduceCtorEq]
 refine zrs ?_
 rcases Nat.lt_or_ge s D.length with hlt|hge
 ·obtain⟨x,hx⟩:=QH hlt
  have h4:=XU hlt (by omega)
  have h2:=lt_t hlt
  have hcl:=WR x.2 (hr'.out x (List.mem_of_getElem? hx))
  obtain⟨hc1,hc2,hc3⟩:=ob_cells hx
  have hX:=hide hx
  clear hx
  have hone:(frB x.2).isOne=true:=rfl
  generalize rowF fOb D=C at*
  generalize frB x.2=y at*
  repeat'(first|(simp -implicitDefEqProofs only[*,QE,zr,seval,reduceIte,reduceCtorEq])|(apply zk<;>intro hc)|(refine zp ?_)|(refine zd ?_)|(refine cP (hcl) ?_)|(refine cD (hcl) ?_)|(refine cF (hcl) ?_)|(refine cO (hcl) ?_)|fail)
  refine⟨s+1,hlt,by omega,?_⟩
  refine wk_i ?_ ?_<;>simp only[zw,seval,reduceIte,reduceCtorEq]
 ·obtain rfl:s=D.length:=by omega
  have h2:=lt_f hge
  clear hge hs
  repeat'(first|(simp -implicitDefEqProofs only[*,zr,seval,reduceIte,reduceCtorEq])|(apply zk<;>intro hc)|(refine zp ?_)|(refine zd ?_)|fail)
  refine QAK (S:=Nat) 52 [1,2,34] [1,2,7] (fun s=>[(35,.f (.int .i64 s))]) (fun s=>[(10,1,AObj.cells (rowA (fun n=> .sl 60900 1 1 0 n) t (P.take s)++(rowF fPt (P.drop s)).map .f)),(60900,1,AObj.cells (frY (yOf t (P.take s))))]) (fun s=>s≤P.length) (fun s=>P.length - s) (0) [60900] [] ?_ rfl ?_ fun s hs=> ?_
  ·exact Nat.zero_le _
  ·refine wk_i ?_ ?_<;>simp only[List.take_zero,List.drop_zero,rowA_nil,yOf_nil,frY_nil,List.nil_append,zw,seval,reduceIte,reduceCtorEq]
  clear h2
  simp only[sws_n,swh_n]
  refine zrs ?_
  rcases Nat.lt_or_ge s P.length with hlt|hge
  ·obtain⟨x,hx⟩:=QH hlt
   have h4:=XU hlt (by omega)
   have h2:=lt_t hlt
   have hxl:=hp'.out x (List.mem_of_getElem? hx)
   have hy:=yOf_snoc (t:=t) hx
   obtain⟨A,B,hA,hB,hC,hT,hc1,hc2,hc3⟩:=pt_cells (a:=fun n=> .sl 60900 1 1 0 n) (t:=t) hx
   rw[hC]
   generalize hCC:A++((fPt x).map AV.f++B)=C at*
   by_cases he:x.1=t
   ·have hno:hasK kPt (P.take s) t=false:=VJ.2 fun y hy2 hk=>by
     obtain⟨m,hm⟩:=List.mem_iff_getElem?.1 hy2
     have hml:=(List.getElem?_eq_some_iff.1 hm).1
     rw[List.length_take]at hml
     rw[List.getElem?_take,if_pos (by omega)]at hm
     have:=Yu hR'.out hm hx (by rw[hk];exact he.symm)
     omega
    rw[VM hno]at hA
    rw[hno,if_neg (by decide),if_pos he]at hy
    rw[ZL hno,frY_nil]
    have hcl:=QC6 x.2.2 hxl
    have hX:=hide hx
    have hA':=hide hA
    have hB':=hide hB
    have hT':=hide hT
    have hy':=hide hy
    have hCC':=hide hCC
    clear hx hA hB hT hy hCC hC hxl
    have hone:(frB x.2.2).isOne=true:=rfl
    repeat'(first|(simp -implicitDefEqProofs only[*,QE,zr,seval,reduceIte,reduceCtorEq])|(apply zk<;>intro hc)|(refine zp ?_)|(refine zd ?_)|(refine cP (hcl) ?_)|(refine cD (hcl) ?_)|(refine cF (hcl) ?_)|(refine cO (hcl) ?_)|fail)
    refine⟨s+1,[(47,60900)],hlt,by omega,rfl,?_⟩
    rw[hT'.out,hy'.out,← hA'.out,← hB'.out]
    have e3:fPtA (fun n=> .sl 60900 1 1 0 n) t x = [.f (.str t),.f (.int .i64 x.2.1),.sl 60900 1 1 0 x.2.2.length]:=by unfold fPtA;rw[if_pos he,he]
    rw[e3]
    refine wk_i ?_ ?_<;>simp only[tl_app,tl_fs,zw,seval,reduceIte,reduceCtorEq]
    exact⟨SlotsOk.app Vs ⟨.inl rfl,.inl rfl,⟨rfl,rfl,rfl,rfl,rfl,rfl,by simp,rfl,rfl⟩,Vs⟩,Vs⟩
   ·have e3:fPtA (fun n=> .sl 60900 1 1 0 n) t x=(fPt x).map AV.f:=by unfold fPtA;rw[if_neg he];rfl
    rw[e3,hCC]at hT
    have hy2:yOf t (P.take (s+1))=yOf t (P.take s):=by
     rw[hy]
     cases hk:hasK kPt (P.take s) t with
     | true=>rfl
     | false=>rw[if_neg (by decide),if_neg he,ZL hk]
    have hs2:C.set (s*3+2) (.f (frB x.2.2))=C:=by rw[hc2,← hCC];rfl
    have hcl:=WR x.2.2 hxl
    have hone:(frB x.2.2).isOne=true:=rfl
    generalize yOf t (P.take s)=Y at*
    have hX:=hide hx
    have hA':=hide hA
    have hB':=hide hB
    have hT':=hide hT
    have hy':=hide hy2
    have hCC':=hide hCC
    clear hx hA hB hT hy hy2 hCC hC hxl hc2 e3
    generalize frB x.2.2=fb at*
    repeat'(first|(simp -implicitDefEqProofs only[*,QE,zr,seval,reduceIte,reduceCtorEq])|(apply zk<;>intro hc)|(refine zp ?_)|(refine zd ?_)|(refine cP (hcl) ?_)|(refine cD (hcl) ?_)|(refine cF (hcl) ?_)|(refine cO (hcl) ?_)|fail)
    refine⟨s+1,[],hlt,by omega,rfl,?_⟩
    rw[hT'.out,hy'.out]
    refine wk_i ?_ ?_<;>simp only[sws_n,swh_n,zw,seval,reduceIte,reduceCtorEq]
    refine⟨?_,Vs⟩
    rw[← hCC'.out,← hA'.out,← hB'.out]
    exact SlotsOk.app (ZP (fun n=>by rw[so_ss];exact⟨rfl,rfl,rfl,rfl,rfl,rfl,by simp,rfl,rfl⟩) _) (SlotsOk.app Vs Vs)
  ·obtain rfl:s=P.length:=by omega
   have h2:=lt_f hge
   clear hge hs
   rw[List.take_length,List.drop_length]
   repeat'(first|(simp -implicitDefEqProofs only[*,zr,seval,reduceIte,reduceCtorEq])|(apply zk<;>intro hc)|(refine zp ?_)|(refine zd ?_)|fail)
   refine⟨[(7,100002,1),(10,100101,1),(60900,100102,1)],?_,?_⟩
   ·refine⟨by decide,by decide,fun e he=> ?_⟩
    simp only[List.mem_cons,List.not_mem_nil,or_false]at he
    rcases he with rfl|rfl|rfl
    ·exact⟨by decide,Nat.zero_lt_one⟩
    ·exact⟨by decide,Nat.zero_lt_one⟩
    ·exact⟨by decide,Nat.zero_lt_one⟩
   ·refine⟨hiRc D P t 1 1 1,⟨rfl,rfl⟩,Jx (ZQ (QC rfl (QG rfl)) rfl) rfl rfl ?_ ?_ ?_ rfl⟩
    ·show(1,some (AObj.cells (AV.turnL _ ((rowF fOb D).map AV.f))))=_
     rw[tl_fs];rfl
    ·show(1,some (AObj.cells (AV.turnL _ (rowA (fun n=>AV.sl 60900 1 1 0 n) t P++(rowF fPt []).map AV.f))))=_
     rw[row_nil,List.map_nil,List.append_nil,Uo (a':=fun n=> .sl 100102 1 1 0 n) (fun n=>rfl)];rfl
    ·show(1,some (AObj.cells (AV.turnL _ (frY (yOf t P)))))=_
     unfold frY
     rw[tl_fs];rfl
end Go.Proofs.YtjfchihkhpinmaaGreatDoor
namespace Go.Proofs.YtjfchihkhpinmaaGreatDoor
open Go.RowKit Go.Shelf
set_option linter.unusedVariables false
set_option linter.unusedSimpArgs false
set_option maxRecDepth 100000

def fAn (m:Mg):List FV:=[.int .i64 m.1,.str m.2.1,.int .i64 m.2.2.1,.int .i64 m.2.2.2.1,.nil]
def rMg (m:Mg):RS:= .agg ((fAn m).map .v)
def rInt (n:Int):RS:= .c (.v (.int .i64 n))
theorem end_rc {H:Heap}{i1 v1 i2 v2 n m:Nat}{a:Mg}{fault:Int}{xs ys zs:List FV}{X:Nat × Option AObj}{l0:List AV}(hp:X=(1,some (.cells ([.sl i1 v1 2 0 n,.sl i2 v2 3 0 m]++zs.map .f)))) (h1:cellsOf v1 (H i1)=some (xs.map .f)) (h2:cellsOf v2 (H i2)=some (ys.map .f)) (l1:n*2≤xs.length) (l2:m*3≤ys.length) (hl0:l0=(fAn a).map .f:=by rfl) (hne:i1≠i2:=by decide) (hn1:100001≠i1:=by decide) (hn2:100001≠i2:=by decide) :
  ∃ l cs',AV.tup [.agg l0,.f (.int .i64 fault)]=QI l∧X=(1,some (.cells cs'))∧YD H ([.own 2 n xs,.own 3 m ys]++zs.map .v) cs'∧RsOk H [rMg a,rInt fault] l∧(idsC cs'++idsS l).Nodup∧¬100001∈idsC cs'++idsS l:=by
 subst hl0
 have hz:∀ zs:List FV,YD H (zs.map .v) (zs.map .f)∧idsC (zs.map .f) = []:=fun zs=>by
  induction zs with
  | nil=>exact⟨rfl,rfl⟩
  | cons z zs ih=>exact⟨⟨rfl,ih.1⟩,ih.2⟩
 have hi:idsC ([.sl i1 v1 2 0 n,.sl i2 v2 3 0 m]++zs.map .f) = [i1,i2]:=by
  show i1::i2::idsC (zs.map .f)=_
  rw[(hz zs).2]
 exact⟨[.agg ((fAn a).map .f),.f (.int .i64 fault)],_,rfl,hp,⟨.inr ⟨i1,v1,rfl,h1,l1⟩,.inr ⟨i2,v2,rfl,h2,l2⟩,(hz zs).1⟩,⟨⟨rfl,rfl,rfl,rfl,rfl,rfl⟩,rfl,rfl⟩,by rw[hi];simp [idsS,idsC,fAn,hne],by rw[hi];simp [idsS,idsC,fAn,hn1,hn2]⟩
theorem lenO {D:List Ob}{n:Nat}(h:D.length=n):n*2≤(rowF fOb D).length:=by rw[QD (sz:=2) (fun _=>rfl),h];exact Nat.le_refl _
theorem lenP {P:List Pt}{n:Nat}(h:P.length=n):n*3≤(rowF fPt P).length:=by rw[QD (sz:=3) (fun _=>rfl),h];exact Nat.le_refl _
theorem insO_len {D:List Ob}(h:QZ kOb D){x:Ob} : (insO D x).length=D.length+1:=by
 have:KX D x.1≤D.length:=Zh h x.1
 unfold insO;rw[List.length_append,List.length_take,List.length_cons,List.length_drop];omega
theorem QCu {P:List Pt}(h:QZ kPt P){x:Pt} : (insP P x).length=P.length+1:=by
 have:Qc P x.1≤P.length:=Zh h x.1
 unfold insP;rw[List.length_append,List.length_take,List.length_cons,List.length_drop];omega
theorem QBk (D:List Ob) (P:List Pt) (t:ByteArray) (b:List UInt8) (zs:List FV) (hD:D.length≤4000) (hr:QZ kOb D) (hb:(b.length:Int)≤9223372036854775807) :
  QBj Tryz.prog 110 ([.own 2 D.length (rowF fOb D),.own 3 P.length (rowF fPt P)]++zs.map .v) [] [.f (.str t),.f (frB b)] ([.own 2 (VB D P t b).2.1.1.length (rowF fOb (VB D P t b).2.1.1),.own 3 P.length (rowF fPt P)]++zs.map .v) [rMg (VB D P t b).2.2,rInt (VB D P t b).1]:=by
 have kd:=Ju b hb
 have kat:=Ks D .any rfl t (by omega) hr
 have hlen:=insO_len hr (x:=(t,b))
 have hI:=insertO_f D (KX D t) (t,b) (Zh hr t) (by omega)
 rw[show D.take (KX D t)++(t,b)::D.drop (KX D t)=insO D (t,b)from rfl]at hI
 unfold VB
 generalize digV b=dv at*
 replace kd:=hide kd
 replace kat:=hide kat
 replace hI:=hide hI
 have hrr:=hide hr
 clear hr
 refine FCall.of_ax MK ?_
 dsimp only[jm,ji,jf,jl,jL,jn,je,jx,jT,jC,jB,jq,jt,ju,jA,km,kf,kl,kn,kx,KI]
 refine zrs ?_
 by_cases hd:dv=t
 ·subst hd
  rw[if_pos rfl]
  have dd:decide (dv=dv)=true:=dcT rfl
  by_cases h4:4000≤D.length
  ·rw[if_pos h4]
   have d4:decide ((D.length:Int)≥4000)=true:=dcT (by omega)
   clear hlen
   repeat'(first|(simp -implicitDefEqProofs only[*,Qe,QX,ZT,List.cons_append,List.nil_append,zr,seval,reduceIte,reduceCtorEq])|(apply zk<;>intro hc)|(refine zp ?_)|(refine zd ?_)|(refine cP (kd.out) ?_)|(refine cD (kd.out) ?_)|(refine cF (kd.out) ?_)|(refine cO (kd.out) ?_)|fail)
   exact end_rc (zs:=zs) rfl rfl rfl (lenO rfl) (lenP rfl)
  ·rw[if_neg h4]
   have d4:decide ((D.length:Int)≥4000)=false:=dcF (by omega)
   repeat'(first|(simp -implicitDefEqProofs only[*,Qe,QX,ZT,List.cons_append,List.nil_append,zr,seval,reduceIte,reduceCtorEq])|(apply zk<;>intro hc)|(refine zp ?_)|(refine zd ?_)|(refine cP (kd.out) ?_)|(refine cD (kd.out) ?_)|(refine cF (kd.out) ?_)|(refine cO (kd.out) ?_)|fail)
   refine gG kat.out ⟨fz_so ⟨Zx (enc:=fOb) (sz:=2) (l:=D) (fun _=>rfl) rfl rfl rfl,trivial,rfl⟩,fz_f,trivial⟩ ?_
   obtain⟨i,hi⟩:∃ i,KX D dv=i:=⟨_,rfl⟩
   rw[hi]at hI ⊢
   generalize insO D (dv,b)=J at*
   replace hlen:=hide hlen
   repeat'(first|(simp -implicitDefEqProofs only[*,zr,seval,reduceIte,reduceCtorEq])|(apply zk<;>intro hc)|(refine zp ?_)|(refine zd ?_)|fail)
   refine gM hI.out [.sl 80000 1 2 0 D.length,.f (.int .i64 i),.sl 40 1 2 0 1] [] ?_
   repeat'(first|(simp -implicitDefEqProofs only[*,zr,seval,reduceIte,reduceCtorEq])|(apply zk<;>intro hc)|(refine zp ?_)|(refine zd ?_)|fail)
   exact end_rc (zs:=zs) rfl rfl rfl (lenO hlen.out) (lenP rfl)
 ·rw[if_neg hd]
  have dd:=dcF hd
  clear hlen
  repeat'(first|(simp -implicitDefEqProofs only[*,Qe,QX,ZT,List.cons_append,List.nil_append,zr,seval,reduceIte,reduceCtorEq])|(apply zk<;>intro hc)|(refine zp ?_)|(refine zd ?_)|(refine cP (kd.out) ?_)|(refine cD (kd.out) ?_)|(refine cF (kd.out) ?_)|(refine cO (kd.out) ?_)|fail)
  exact end_rc (zs:=zs) rfl rfl rfl (lenO rfl) (lenP rfl)
end Go.Proofs.YtjfchihkhpinmaaGreatDoor
