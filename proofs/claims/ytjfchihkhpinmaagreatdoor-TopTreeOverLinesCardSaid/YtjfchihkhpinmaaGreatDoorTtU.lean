/-
  What is put into a writer's map. No statement of the seat is proved here; no conditions.
-/
import Derived.Test.YtjfchihkhpinmaaGreatDoorTtA
import Derived.Test.YtjfchihkhpinmaaGreatDoorWr4
import Derived.Test.YtjfchihkhpinmaaGreatDoorHi2
import Derived.Test.YtjfchihkhpinmaaGreatDoorDig
import Derived.Test.YtjfchihkhpinmaaGreatDoorRng
import Derived.Test.YtjfchihkhpinmaaGreatDoorTtH
import Derived.Test.YtjfchihkhpinmaaGreatDoorTtT
namespace Go.Proofs.YtjfchihkhpinmaaGreatDoor
open Go.RowKit Go.Shelf
set_option linter.unusedVariables false
set_option linter.unusedSimpArgs false
set_option maxRecDepth 100000

abbrev Mt2:=List (ByteArray × FV)
def hlW (M:Mt2):List (Nat × Nat × AObj):=[(100001,1,.cells [.map 100002 1]),(100002,1,.ty (XK M) ZD)]
def putM (M:Mt2) (b:List UInt8):Mt2:=if hasT (digV b) M=true then M else setT (digV b) (frB b) M
theorem QCy:∀ (M:Mt2),(XK M).all AV.hi=true
 | []=>rfl
 | p::M=>by rw[Jp,List.all_cons,List.all_cons,QCy];rfl
theorem KL (M:Mt2):JX (hlW M)=true:=by
 unfold JX hlW
 simp only[List.all_cons,List.all_nil,Bool.and_true,Bool.and_eq_true]
 exact⟨rfl,QCy M⟩
theorem put_hi (M:Mt2) (b:List UInt8) (hb:b.length≤10000000):FHi Tryz.prog 35 [.ptr 100001 1 0,.f (frB b)] (hlW M) (fun r hl'=>r=.f (.str (digV b))∧hl'=hlW (putM M b)):=by
 have kD:=Ju b (by omega)
 have kC:=WR b (by omega)
 have hG:=QAW (s:=digV b) (L:=M)
 have hS:=QAU (s:=digV b) (y:=frB b) (L:=M)
 have hone:(frB b).isOne=true:=rfl
 have hpv:(AV.f (frB b)).plainVal=none:=rfl
 unfold putM hlW
 generalize digV b=dv at*
 generalize frB b=B at*
 refine FCall.of_ax UX ?_
 dsimp only[jm,ji,jf,jl,jL,jn,je,jx,jT,jC,jB,jq,jt,ju,jA,km,kf,kl,kn,kx,ZG]
 by_cases h:hasT dv M=true
 ·rw[h]at hG
  rw[if_pos h]
  generalize XK M=T at*
  clear hS h
  refine zrs ?_
  repeat'(first|(simp -implicitDefEqProofs only[*,QA1,lookT,NC,zr,seval,reduceIte,reduceCtorEq])|(refine zp ?_)|(refine zd ?_)|(refine cP (kD) ?_)|(refine cD (kD) ?_)|(refine cF (kD) ?_)|(refine cP (kC) ?_)|(refine cD (kC) ?_)|(refine cF (kC) ?_)|fail)
  refine⟨_,⟨rfl,rfl⟩,Jx (QG rfl) rfl rfl rfl rfl rfl rfl⟩
 ·rw[Bool.not_eq_true]at h
  rw[h]at hG
  rw[if_neg (by rw[h];decide)]
  generalize XK M=T at*
  generalize XK (setT dv B M)=T2 at*
  clear h
  refine zrs ?_
  repeat'(first|(simp -implicitDefEqProofs only[*,QA1,lookT,NC,Js,QE,zr,seval,reduceIte,reduceCtorEq])|(refine zp ?_)|(refine zd ?_)|(refine cP (kD) ?_)|(refine cD (kD) ?_)|(refine cF (kD) ?_)|(refine cP (kC) ?_)|(refine cD (kC) ?_)|(refine cF (kC) ?_)|fail)
  refine⟨_,⟨rfl,rfl⟩,Jx (QC rfl (QG rfl)) rfl rfl rfl rfl rfl rfl⟩
end Go.Proofs.YtjfchihkhpinmaaGreatDoor
namespace Go.Proofs.YtjfchihkhpinmaaGreatDoor
open Go.RowKit Go.Shelf
set_option linter.unusedVariables false
set_option linter.unusedSimpArgs false
set_option maxRecDepth 100000

def ndC (sub:List FT→List (List UInt8)) (d:Nd):List (List UInt8):=match d.2 with
 | .inl f=>[f.2.2]
 | .inr fs=>sub fs
def puts (M:Mt2) (cs:List (List UInt8)):Mt2:=cs.foldl putM M
theorem puts_app (M:Mt2) (a b:List (List UInt8)):puts M (a++b)=puts (puts M a) b:=List.foldl_append ..
def mN (sub:List FT→List (List UInt8)) (L:List Nd) (M:Mt2) (s:Nat):Mt2:=puts M ((L.take s).flatMap (ndC sub))
theorem mN_succ {sub:List FT→List (List UInt8)}{L:List Nd}{M:Mt2}{s:Nat}{d:Nd}(h:L[s]? = some d):mN sub L M (s+1)=puts (mN sub L M s) (ndC sub d):=by
 unfold mN
 rw[List.take_add_one,h,List.flatMap_append,puts_app]
 show puts _ (ndC sub d++ [])=_
 rw[List.append_nil]
theorem mN_0 {sub:List FT→List (List UInt8)}{L:List Nd}{M:Mt2} : mN sub L M 0=M:=by unfold mN;rw[List.take_zero];rfl
theorem flatT_map (M:Mt2):XK M=(M.flatMap fun p=>[FV.str p.1,p.2]).map AV.f:=by
 unfold XK
 rw[List.map_flatMap];rfl
theorem Ul {H H':Heap}{nw:List Nat}{M:Mt2} : SlotsOk H H' nw (XK M) (XK M):=by
 rw[flatT_map];exact Vs
theorem Ms (k:Nat) (l:List FT):cont digV (k+1) l=txt digV (k+1) l::(nds l).flatMap (ndC (cont digV k)):=rfl
set_option maxHeartbeats 4000000 in
theorem wdir_w (M:Mt2) (l:List FT) (L:List Nd) (T:List UInt8) (sub:List FT→List (List UInt8)) (hL:L.length≤1000) (hT:T.length≤10000000)
  (kN:FRet Tryz.prog 34 [.f (QY l)] [.c (.v (Nu L))]) (kT:FRet Tryz.prog 36 [.f (Nu L)] [.c (.v (frB T))])
  (hf:∀ n f,(n,.inl f)∈L→f.2.2.length≤100000)
  (hd:∀ n fs,(n,.inr fs)∈L→∃ dv,∀ M',FHi Tryz.prog 11 [.ptr 100001 1 0,.f (QY fs)] (hlW M') (fun r hl'=>r=.f (.str dv)∧hl'=hlW (puts M' (sub fs)))) :
  FHi Tryz.prog 11 [.ptr 100001 1 0,.f (QY l)] (hlW M) (fun r hl'=>r=.f (.str (digV T))∧hl'=hlW (puts M (T::L.flatMap (ndC sub)))):=by
 have hF:=hide hf
 have hD:=hide hd
 have kP:=put_hi M T hT
 have hfin:puts M (T::L.flatMap (ndC sub))=mN sub L (putM M T) L.length:=by
  unfold mN
  rw[List.take_length];rfl
 rw[hfin]
 clear hfin hf hd
 have hb:=KL M
 have hb2:=KL (putM M T)
 generalize putM M T=M1 at*
 generalize digV T=dv at*
 generalize frB T=FT' at*
 generalize QY l=FL at*
 simp only[Nu]at kN kT
 refine FCall.of_ax UY ?_
 dsimp only[jm,ji,jf,jl,jL,jn,je,jx,jT,jC,jB,jq,jt,ju,jA,km,kf,kl,kn,kx,ZH]
 unfold hlW at kP hb hb2 ⊢
 generalize XK M=A0 at*
 refine zrs ?_
 repeat'(first|(simp -implicitDefEqProofs only[*,List.length_map,zr,seval,reduceIte,reduceCtorEq])|(refine zp ?_)|(refine zd ?_)|(refine cP (kN) ?_)|(refine cD (kN) ?_)|(refine cF (kN) ?_)|(refine cP (kT) ?_)|(refine cD (kT) ?_)|(refine cF (kT) ?_)|fail)
 refine KP rfl kP rfl rfl (Jx (QG rfl) rfl rfl rfl rfl rfl rfl) (by rintro r hl' ⟨rfl,rfl⟩;exact⟨rfl,hb2⟩) hb rfl ?_
 rintro r hl' ⟨rfl,rfl⟩
 clear kP hb hb2 kN kT
 refine zrs ?_
 repeat'(first|(simp -implicitDefEqProofs only[*,XG,List.length_map,zr,seval,reduceIte,reduceCtorEq])|(apply zk<;>intro hc)|(refine zp ?_)|(refine zd ?_)|fail)
 refine QK (S:=Nat) 37 [0,6,15,16] [] (fun s=>[(17,.f (.int .i64 s))]) (fun s=>[(100001,1,AObj.cells [.map 100002 1]),(100002,1,AObj.ty (XK (mN sub L M1 s)) ZD)]) (fun s=>s≤L.length) (fun s=>L.length - s) (0) [] ?_ ?_ fun s hs=> ?_
 ·exact Nat.zero_le _
 ·rw[mN_0]
  refine wk_i (h2:=VE (QG rfl)) ?_ ?_<;>simp only[XG,zw,seval,reduceIte,reduceCtorEq]
  exact⟨⟨rfl,_,rfl,Ul⟩,trivial⟩
 rcases Nat.lt_or_ge s L.length with hlt|hge
 ·obtain⟨d,hx⟩:=QH hlt
  have h4:=XU hlt (by omega)
  have h2:=lt_t hlt
  have hms:=mN_succ (sub:=sub) (M:=M1) hx
  generalize mN sub L M1 s=M2 at*
  obtain⟨n,f|fs⟩:=d
  ·have kQ:=put_hi M2 f.2.2 (by have:=hF.out n f (List.mem_of_getElem? hx);omega)
   obtain⟨fp,fr,fb⟩:=f
   have hx1:(L.map fNd)[s]? = some [.str (bs n),.fp (fFt (fp,fr,fb)),.nil]:=by rw[List.getElem?_map,hx];rfl
   have hms':mN sub L M1 (s+1)=putM M2 fb:=hms
   have hb3:=KL M2
   have hb4:=KL (putM M2 fb)
   unfold hlW at kQ hb3 hb4
   dsimp only at kQ
   generalize putM M2 fb=M3 at*
   generalize digV fb=dv2 at*
   generalize hB:frB fb=B at*
   have hx2:(L.map fNd)[s]? = some [.str (bs n),.fp [.str (bs fp),.bool fr,B],.nil]:=by rw[hx1,← hB];rfl
   have hlt3:s<(L.map fNd).length:=by rw[List.length_map];exact hlt
   have hms2:=hide hms'
   clear hx1 hms hms' hx hD hF
   generalize bs n=N at*
   generalize bs fp=FP at*
   refine zrs ?_
   repeat'(first|(simp -implicitDefEqProofs only[*,zr,seval,reduceIte,reduceCtorEq])|(refine zp ?_)|(refine zd ?_)|fail)
   refine KP rfl kQ rfl rfl (Jx (by repeat (first|exact QG rfl|exact YM|refine QC rfl ?_)) rfl rfl rfl rfl rfl rfl) (by rintro r hl' ⟨rfl,rfl⟩;exact⟨rfl,hb4⟩) hb3 rfl ?_
   rintro r hl' ⟨rfl,rfl⟩
   clear kQ hb3 hb4
   refine zrs ?_
   repeat'(first|(simp -implicitDefEqProofs only[*,XG,zr,seval,reduceIte,reduceCtorEq])|(apply zk<;>intro hc)|(refine zp ?_)|(refine zd ?_)|fail)
   refine⟨s+1,hlt,by omega,?_⟩
   rw[hms2.out]
   refine wk_i (h2:=VE (QC rfl (QC rfl (QG rfl)))) ?_ ?_<;>simp only[XG,zw,seval,reduceIte,reduceCtorEq]
   all_goals exact⟨⟨rfl,_,rfl,Ul⟩,trivial⟩
  ·obtain⟨dv2,kQ0⟩:=hD.out n fs (List.mem_of_getElem? hx)
   have kQ:=kQ0 M2
   have hx1:(L.map fNd)[s]? = some [.str (bs n),.lit (.pointer none),QY fs]:=by rw[List.getElem?_map,hx];rfl
   have hms':mN sub L M1 (s+1)=puts M2 (sub fs):=hms
   have hb3:=KL M2
   have hb4:=KL (puts M2 (sub fs))
   unfold hlW at kQ hb3 hb4
   generalize puts M2 (sub fs)=M3 at*
   generalize QY fs=B at*
   have hlt3:s<(L.map fNd).length:=by rw[List.length_map];exact hlt
   have hms2:=hide hms'
   clear hms hms' hx hD hF kQ0
   generalize bs n=N at*
   replace kQ:=hide kQ
   refine zrs ?_
   repeat'(first|(simp -implicitDefEqProofs only[*,zr,seval,reduceIte,reduceCtorEq])|(refine zp ?_)|(refine zd ?_)|fail)
   refine KP rfl kQ.out rfl rfl (Jx (by repeat (first|exact QG rfl|exact YM|refine QC rfl ?_)) rfl rfl rfl rfl rfl rfl) (by rintro r hl' ⟨rfl,rfl⟩;exact⟨rfl,hb4⟩) hb3 rfl ?_
   rintro r hl' ⟨rfl,rfl⟩
   clear kQ hb3 hb4
   refine zrs ?_
   repeat'(first|(simp -implicitDefEqProofs only[*,XG,zr,seval,reduceIte,reduceCtorEq])|(apply zk<;>intro hc)|(refine zp ?_)|(refine zd ?_)|fail)
   refine⟨s+1,hlt,by omega,?_⟩
   rw[hms2.out]
   refine wk_i (h2:=VE (QC rfl (QC rfl (QG rfl)))) ?_ ?_<;>simp only[XG,zw,seval,reduceIte,reduceCtorEq]
   all_goals exact⟨⟨rfl,_,rfl,Ul⟩,trivial⟩
 ·obtain rfl:s=L.length:=by omega
  have h2:=lt_f hge
  clear hF hD
  refine zrs ?_
  repeat'(first|(simp -implicitDefEqProofs only[*,List.length_map,zr,seval,reduceIte,reduceCtorEq])|(apply zk<;>intro hc)|(refine zp ?_)|(refine zd ?_)|fail)
  refine⟨_,⟨rfl,rfl⟩,Jx (QG rfl) rfl rfl rfl rfl rfl rfl⟩
theorem wdir_f:∀ (k:Nat) (l:List FT) (M:Mt2),Gd PO l→Short k l→Sz l→l≠[]→FHi Tryz.prog 11 [.ptr 100001 1 0,.f (QY l)] (hlW M) (fun r hl'=>r=.f (.str (digV (txt digV k l)))∧hl'=hlW (puts M (cont digV k l)))
 | 0,l,M,hG,hs,hz,hne=>by
  cases l with
  | nil=>exact absurd rfl hne
  | cons x l=>exact absurd (hs x List.mem_cons_self) (Nat.not_lt_zero _)
 | k+1,l,M,hG,hs,hz,hne=>by
  rw[Ms]
  refine wdir_w M l (nds l) (txt digV (k+1) l) (cont digV k) (by have:=JD l;have:=hz.len;omega) (UN hz) (QBx l hG hz.len hz.pt) (Ny (k+1) l hG hs hz) (fun n f hm=> ?_) (fun n fs hm=> ?_)
  ·exact hz.by_ f (hG.file (Vg.1 hm)).1
  ·have hg:=Vg.1 hm
   obtain⟨hGf,_⟩:=hG.dir hg
   obtain⟨hzf,_⟩:=hz.dir hg
   exact⟨_,fun M'=>wdir_f k fs M' hGf (hs.dir hg) hzf (Zr l _ hg).1⟩
theorem wdir_e (k:Nat) (M:Mt2):FHi Tryz.prog 11 [.ptr 100001 1 0,.f (QY [])] (hlW M) (fun r hl'=>r=.f (.str (digV (txt digV (k+1) [])))∧hl'=hlW (puts M (cont digV (k+1) []))):=by
 have hG:Gd PO []:=⟨List.Pairwise.nil,(fun x hx=>by cases hx),(fun x hx=>by cases hx)⟩
 have hz:Sz []:=⟨by simp,(fun x hx=>by cases hx),(fun x hx=>by cases hx)⟩
 rw[Ms]
 exact wdir_w M [] (nds []) (txt digV (k+1) []) (cont digV k) (by simp [nds,grp,srtS]) (UN hz) (QBx [] hG hz.len hz.pt) (Ny (k+1) [] hG (fun x hx=>by cases hx) hz) (fun n f hm=>by cases hm) (fun n fs hm=>by cases hm)
end Go.Proofs.YtjfchihkhpinmaaGreatDoor
namespace Go.Proofs.YtjfchihkhpinmaaGreatDoor
open Go.RowKit Go.Shelf Go.Sort
set_option linter.unusedVariables false
set_option linter.unusedSimpArgs false
set_option maxRecDepth 100000

theorem ZZ:∀ x,(fOb x).length=2:=fun _=>rfl
def QO (Rel:FV→Value→Prop) (p:Ob × VR 1):Prop:=p.2.1=p.1.1∧∀ (j:Nat) f,(fOb p.1)[j]? = some f→∃ u,(encP p)[j]? = some u∧Rel f u
theorem Mc {Rel:FV→Value→Prop}(hs:∀ s u,Rel (.str s) u→u=.string s) (arr:Array Value):∀ (l:List Ob) (o:Nat),(∀ (j:Nat) f,(rowF fOb l)[j]? = some f→∃ u,arr[o+j]? = some u∧u.oneCell'=true∧Rel f u)→∃ d:List (Ob × VR 1),d.map (·.1)=l∧(∀ p∈d,QO Rel p)∧∀ j,j<d.length*2→arr[o+j]? = (d.flatMap encP)[j]?
 | [],o,h=>⟨[],rfl,⟨fun p hp=>(List.not_mem_nil hp).elim,fun j hj=>absurd hj (by simp)⟩⟩
 | x::l,o,h=>by
  have hsh:∀ (j:Nat) f,(rowF fOb l)[j]? = some f→(rowF fOb (x::l))[2+j]? = some f:=fun j f hf=>by
   rw[Qr,List.getElem?_append_right (by rw[ZZ];omega),ZZ,Nat.add_sub_cancel_left];exact hf
  obtain⟨d,h1,h2,h3⟩:=Mc hs arr l (o+2) fun j f hf=>by
   have:=h (2+j) f (hsh j f hf)
   rw[show o+2+j=o+(2+j) by omega];exact this
  obtain⟨p,b⟩:=x
  obtain⟨u0,a0,b0,c0⟩:=h 0 (.str p) rfl
  obtain⟨u1,a1,b1,c1⟩:=h 1 (frB b) rfl
  obtain rfl:=hs _ _ c0
  refine⟨((p,b),p,⟨[u1],rfl,fun v hv=>by
   simp only[List.mem_cons,List.not_mem_nil,or_false]at hv
   rw[hv];exact b1⟩)::d,by rw[List.map_cons,h1],fun q hq=> ?_,fun j hj=> ?_⟩
  ·rcases List.mem_cons.1 hq with rfl|hq
   ·refine⟨rfl,fun j f hf=> ?_⟩
    rcases j with _|_|j
    ·obtain rfl:=Option.some.inj hf;exact⟨_,rfl,c0⟩
    ·obtain rfl:=Option.some.inj hf;exact⟨_,rfl,c1⟩
    ·cases hf
   ·exact h2 q hq
  ·rcases j with _|_|j
   ·exact a0
   ·exact a1
   ·have:=h3 j (by simp only[List.length_cons]at hj;omega)
    rw[show o+(j+1+1)=o+2+j by omega,this]
    rfl
theorem Mk {Rel:FV→Value→Prop} : ∀ {d:List (Ob × VR 1)},(∀ p∈d,QO Rel p)→∀ (j:Nat) f,(rowF fOb (d.map (·.1)))[j]? = some f→∃ u,(d.flatMap encP)[j]? = some u∧u.oneCell'=true∧Rel f u
 | [],h,j,f,hf=>by simp [rowF]at hf
 | p::d,h,j,f,hf=>by
  rw[List.map_cons,Qr]at hf
  rw[List.flatMap_cons]
  by_cases hj:j<2
  ·rw[List.getElem?_append_left (by rw[ZZ];exact hj)]at hf
   obtain⟨u,h1,h2⟩:=(h p List.mem_cons_self).2 j f hf
   exact⟨u,by rw[List.getElem?_append_left (by rw[Vp];exact hj)];exact h1,Jr p u (List.mem_of_getElem? h1),h2⟩
  ·rw[List.getElem?_append_right (by rw[ZZ];omega),ZZ]at hf
   obtain⟨u,h1,h2⟩:=Mk (fun q hq=>h q (List.mem_cons_of_mem _ hq)) (j - 2) f hf
   exact⟨u,by rw[List.getElem?_append_right (by rw[Vp];omega),Vp];exact h1,h2⟩
def SrtO (l:List Ob):Prop:=l.Pairwise fun x y=>strLt y.1 x.1=false
set_option maxHeartbeats 2000000 in
theorem QBp {H:Heap}{id ver:Nat}(l:List Ob) (hc:H id=(ver,some (.cells ((rowF fOb l).map .f)))) (hn:l.length≤1000000) :
  ACall Tryz.prog 12 [.sl id ver 2 0 l.length,.f (.fn (.func 13))] H (fun r H'=>r=.tup []∧∃ l',l'.Perm l∧SrtO l'∧H'=upd H id (ver,some (.cells ((rowF fOb l').map .f)))):=by
 refine⟨by kernel_rfl,fun G Z w vs st hsz hrep=> ?_⟩
 have hcc:cellsOf ver (H id)=some ((rowF fOb l).map .f):=by rw[hc];simp [cellsOf]
 obtain⟨loc,hG,hob,_⟩:=st.cells hcc
 obtain⟨v0,hv0⟩:∃ v,vs[0]? = some v:=⟨_,Array.getElem?_eq_getElem (by rw[hsz];simp)⟩
 obtain⟨v1,hv1⟩:∃ v,vs[1]? = some v:=⟨_,Array.getElem?_eq_getElem (by rw[hsz];simp)⟩
 have h0:=hrep 0 _ v0 rfl hv0
 have h1:=(hrep 1 _ v1 rfl hv1).fn_
 have hvs:vs = #[v0,v1]:=by
  apply Array.ext_getElem?
  intro i
  rcases i with _|_|i
  ·rw[hv0];rfl
  ·rw[hv1];rfl
  ·rw[Array.getElem?_eq_none (by rw[hsz];simp),Array.getElem?_eq_none (by simp)]
 subst hvs h1
 rcases h0.sl_ hG with⟨hl0,A,rfl⟩|⟨g,o,c,rfl,rfl,hc1,hc2,arr',e',fz',hh',hroom⟩
 ·have e:=List.eq_nil_of_length_eq_zero hl0
  subst e
  have hcon:=AnyF.slices_SortFunc_none Tryz.sortOb A 0 (.func (.func 13) #[] #[]) w
  change Calls Tryz.prog 12 _ _ _ at hcon
  refine hcon.mono ?_
  rintro e w' ⟨rfl,rfl⟩
  exact⟨_,.tup [],H,G,Z,rfl,⟨rfl,[],.refl _,List.Pairwise.nil,(YQ _ _ _ hc).symm⟩,st,Step.refl _ _ _,.tup _ _ rfl (fun j a u h=>by simp at h)⟩
 ·obtain⟨arr,et,hh,hcr⟩:=hob
  have hg:g<w.heap.size:=VK hh
  obtain⟨d,hd,hQ,hF⟩:=Mc (Rel:=fun f u=>RepF Z w f u) (fun s u h=>h.str_) arr l o fun j f hf=>by
   obtain⟨u,h4,h5,h6⟩:=hcr j (.f f) (by rw[List.getElem?_map,hf];rfl)
   exact⟨u,h4,h5,h6.f_⟩
  have hdl:d.length=l.length:=by rw[← hd,List.length_map]
  have hcon:=sortO_w (T:=Ob) (fz:=(0,0)) d g o c w hh hF (by omega)
  rw[hdl]at hcon
  rw[show o+0*2=o by omega]
  refine hcon.mono ?_
  rintro e w' ⟨he,d',hp,hs,hO,arr1,hW,hsz1,hcell⟩
  have hQ':∀ p∈d',QO (fun f u=>RepF Z w f u) p:=fun p hp'=>hQ p (hp.mem_iff.1 hp')
  have hdl':(d'.map (·.1)).length=l.length:=by rw[List.length_map,hp.length_eq,hdl]
  have hones:Ones w' g:=fun a1 t1 f1 ha i v hi=>by
   rw[hW]at ha
   obtain⟨rfl,_,_⟩:=Obj.cells.inj (Option.some.inj ha)
   rw[hcell]at hi
   split at hi
   ·obtain⟨p,_,hv⟩:=List.mem_flatMap.1 (List.mem_of_getElem? hi)
    exact Jr p v hv
   ·exact st.ones id g o (by rw[hG]) arr et (0,0) hh i v hi
  obtain⟨s1,s2⟩:=st.change id g hO (ver,some (some (g,o))) (ver,some (.cells ((rowF fOb (d'.map (·.1))).map .f))) (.inr ⟨o,by rw[hG]⟩) (.inl (Nat.lt_of_lt_of_le hg hO.size)) rfl (by rw[hc];exact Nat.le_refl _) (fun _=> .inr (by rw[hG])) (.inr (.inr ⟨o,rfl⟩)) (fun _=>hones) (fun h=>by cases h) (fun o' ho'=>by
   obtain rfl:=Option.some.inj ho'
   refine⟨_,rfl,fun hk=>⟨_,et,hW,fun j a hj=> ?_⟩⟩
   rw[List.getElem?_map]at hj
   obtain⟨x,hx,rfl⟩:=Option.map_eq_some_iff.1 hj
   have hjl:=(List.getElem?_eq_some_iff.1 hx).1
   rw[QD ZZ,hdl']at hjl
   obtain⟨u,h4,h5,h6⟩:=Mk hQ' j x hx
   refine⟨u,?_,h5,RepA.keep hk (.f h6)⟩
   rw[hcell,if_pos ⟨by omega,by omega⟩,show o+j - o=j by omega]
   exact h4)
  ·refine⟨_,.tup [],_,_,Z,he,⟨rfl,d'.map (·.1),?_,?_,rfl⟩,s1,s2,.tup _ _ rfl (fun j a u h=>by simp at h)⟩
   ·rw[← hd];exact hp.map _
   ·unfold SrtO
    rw[List.pairwise_map]
    refine List.Pairwise.imp_of_mem (fun {a b} ha hb hab=> ?_) hs
    rw[(hQ' a ha).1,(hQ' b hb).1]at hab
    exact hab
end Go.Proofs.YtjfchihkhpinmaaGreatDoor
namespace Go.Proofs.YtjfchihkhpinmaaGreatDoor
open Go.RowKit Go.Shelf Go.Sort
set_option linter.unusedVariables false
set_option linter.unusedSimpArgs false
set_option maxRecDepth 100000

def QF (Rel:FV→Value→Prop) (p:FT × VR 2):Prop:=p.2.1=bs p.1.1∧∀ (j:Nat) f,(fFt p.1)[j]? = some f→∃ u,(encP p)[j]? = some u∧Rel f u
theorem QBA {Rel:FV→Value→Prop}(hs:∀ s u,Rel (.str s) u→u=.string s) (arr:Array Value):∀ (l:List FT) (o:Nat),(∀ (j:Nat) f,(rowF fFt l)[j]? = some f→∃ u,arr[o+j]? = some u∧u.oneCell'=true∧Rel f u)→∃ d:List (FT × VR 2),d.map (·.1)=l∧(∀ p∈d,QF Rel p)∧∀ j,j<d.length*3→arr[o+j]? = (d.flatMap encP)[j]?
 | [],o,h=>⟨[],rfl,⟨fun p hp=>(List.not_mem_nil hp).elim,fun j hj=>absurd hj (by simp)⟩⟩
 | x::l,o,h=>by
  have hsh:∀ (j:Nat) f,(rowF fFt l)[j]? = some f→(rowF fFt (x::l))[3+j]? = some f:=fun j f hf=>by
   rw[Qr,List.getElem?_append_right (by rw[Vc];omega),Vc,Nat.add_sub_cancel_left];exact hf
  obtain⟨d,h1,h2,h3⟩:=QBA hs arr l (o+3) fun j f hf=>by
   have:=h (3+j) f (hsh j f hf)
   rw[show o+3+j=o+(3+j) by omega];exact this
  obtain⟨p,r,b⟩:=x
  obtain⟨u0,a0,b0,c0⟩:=h 0 (.str (bs p)) rfl
  obtain⟨u1,a1,b1,c1⟩:=h 1 (.bool r) rfl
  obtain⟨u2,a2,b2,c2⟩:=h 2 (frB b) rfl
  obtain rfl:=hs _ _ c0
  refine⟨((p,r,b),bs p,⟨[u1,u2],rfl,fun v hv=>by
   simp only[List.mem_cons,List.not_mem_nil,or_false]at hv
   rcases hv with rfl|rfl
   ·exact b1
   ·exact b2⟩)::d,by rw[List.map_cons,h1],fun q hq=> ?_,fun j hj=> ?_⟩
  ·rcases List.mem_cons.1 hq with rfl|hq
   ·refine⟨rfl,fun j f hf=> ?_⟩
    rcases j with _|_|_|j
    ·obtain rfl:=Option.some.inj hf;exact⟨_,rfl,c0⟩
    ·obtain rfl:=Option.some.inj hf;exact⟨_,rfl,c1⟩
    ·obtain rfl:=Option.some.inj hf;exact⟨_,rfl,c2⟩
    ·cases hf
   ·exact h2 q hq
  ·rcases j with _|_|_|j
   ·exact a0
   ·exact a1
   ·exact a2
   ·have:=h3 j (by simp only[List.length_cons]at hj;omega)
    rw[show o+(j+1+1+1)=o+3+j by omega,this]
    rfl
theorem QBM {Rel:FV→Value→Prop} : ∀ {d:List (FT × VR 2)},(∀ p∈d,QF Rel p)→∀ (j:Nat) f,(rowF fFt (d.map (·.1)))[j]? = some f→∃ u,(d.flatMap encP)[j]? = some u∧u.oneCell'=true∧Rel f u
 | [],h,j,f,hf=>by simp [rowF]at hf
 | p::d,h,j,f,hf=>by
  rw[List.map_cons,Qr]at hf
  rw[List.flatMap_cons]
  by_cases hj:j<3
  ·rw[List.getElem?_append_left (by rw[Vc];exact hj)]at hf
   obtain⟨u,h1,h2⟩:=(h p List.mem_cons_self).2 j f hf
   exact⟨u,by rw[List.getElem?_append_left (by rw[Vp];exact hj)];exact h1,Jr p u (List.mem_of_getElem? h1),h2⟩
  ·rw[List.getElem?_append_right (by rw[Vc];omega),Vc]at hf
   obtain⟨u,h1,h2⟩:=QBM (fun q hq=>h q (List.mem_cons_of_mem _ hq)) (j - 3) f hf
   exact⟨u,by rw[List.getElem?_append_right (by rw[Vp];omega),Vp];exact h1,h2⟩
def SrtF (l:List FT):Prop:=l.Pairwise fun x y=>ltF y x=false
set_option maxHeartbeats 2000000 in
theorem OG {H:Heap}{id ver:Nat}(l:List FT) (hc:H id=(ver,some (.cells ((rowF fFt l).map .f)))) (hn:l.length≤1000000) :
  ACall Tryz.prog 29 [.sl id ver 3 0 l.length,.f (.fn (.func 30))] H (fun r H'=>r=.tup []∧∃ l',l'.Perm l∧SrtF l'∧H'=upd H id (ver,some (.cells ((rowF fFt l').map .f)))):=by
 refine⟨by kernel_rfl,fun G Z w vs st hsz hrep=> ?_⟩
 have hcc:cellsOf ver (H id)=some ((rowF fFt l).map .f):=by rw[hc];simp [cellsOf]
 obtain⟨loc,hG,hob,_⟩:=st.cells hcc
 obtain⟨v0,hv0⟩:∃ v,vs[0]? = some v:=⟨_,Array.getElem?_eq_getElem (by rw[hsz];simp)⟩
 obtain⟨v1,hv1⟩:∃ v,vs[1]? = some v:=⟨_,Array.getElem?_eq_getElem (by rw[hsz];simp)⟩
 have h0:=hrep 0 _ v0 rfl hv0
 have h1:=(hrep 1 _ v1 rfl hv1).fn_
 have hvs:vs = #[v0,v1]:=by
  apply Array.ext_getElem?
  intro i
  rcases i with _|_|i
  ·rw[hv0];rfl
  ·rw[hv1];rfl
  ·rw[Array.getElem?_eq_none (by rw[hsz];simp),Array.getElem?_eq_none (by simp)]
 subst hvs h1
 rcases h0.sl_ hG with⟨hl0,A,rfl⟩|⟨g,o,c,rfl,rfl,hc1,hc2,arr',e',fz',hh',hroom⟩
 ·have e:=List.eq_nil_of_length_eq_zero hl0
  subst e
  have hcon:=AnyF.slices_SortFunc_none Tryz.sortFile A 0 (.func (.func 30) #[] #[]) w
  change Calls Tryz.prog 29 _ _ _ at hcon
  refine hcon.mono ?_
  rintro e w' ⟨rfl,rfl⟩
  exact⟨_,.tup [],H,G,Z,rfl,⟨rfl,[],.refl _,List.Pairwise.nil,(YQ _ _ _ hc).symm⟩,st,Step.refl _ _ _,.tup _ _ rfl (fun j a u h=>by simp at h)⟩
 ·obtain⟨arr,et,hh,hcr⟩:=hob
  have hg:g<w.heap.size:=VK hh
  obtain⟨d,hd,hQ,hF⟩:=QBA (Rel:=fun f u=>RepF Z w f u) (fun s u h=>h.str_) arr l o fun j f hf=>by
   obtain⟨u,h4,h5,h6⟩:=hcr j (.f f) (by rw[List.getElem?_map,hf];rfl)
   exact⟨u,h4,h5,h6.f_⟩
  have hdl:d.length=l.length:=by rw[← hd,List.length_map]
  have hcon:=sortF_w (T:=FT) (fz:=(0,0)) d g o c w hh hF (by omega)
  rw[hdl]at hcon
  rw[show o+0*3=o by omega]
  refine hcon.mono ?_
  rintro e w' ⟨he,d',hp,hs,hO,arr1,hW,hsz1,hcell⟩
  have hQ':∀ p∈d',QF (fun f u=>RepF Z w f u) p:=fun p hp'=>hQ p (hp.mem_iff.1 hp')
  have hdl':(d'.map (·.1)).length=l.length:=by rw[List.length_map,hp.length_eq,hdl]
  have hones:Ones w' g:=fun a1 t1 f1 ha i v hi=>by
   rw[hW]at ha
   obtain⟨rfl,_,_⟩:=Obj.cells.inj (Option.some.inj ha)
   rw[hcell]at hi
   split at hi
   ·obtain⟨p,_,hv⟩:=List.mem_flatMap.1 (List.mem_of_getElem? hi)
    exact Jr p v hv
   ·exact st.ones id g o (by rw[hG]) arr et (0,0) hh i v hi
  obtain⟨s1,s2⟩:=st.change id g hO (ver,some (some (g,o))) (ver,some (.cells ((rowF fFt (d'.map (·.1))).map .f))) (.inr ⟨o,by rw[hG]⟩) (.inl (Nat.lt_of_lt_of_le hg hO.size)) rfl (by rw[hc];exact Nat.le_refl _) (fun _=> .inr (by rw[hG])) (.inr (.inr ⟨o,rfl⟩)) (fun _=>hones) (fun h=>by cases h) (fun o' ho'=>by
   obtain rfl:=Option.some.inj ho'
   refine⟨_,rfl,fun hk=>⟨_,et,hW,fun j a hj=> ?_⟩⟩
   rw[List.getElem?_map]at hj
   obtain⟨x,hx,rfl⟩:=Option.map_eq_some_iff.1 hj
   have hjl:=(List.getElem?_eq_some_iff.1 hx).1
   rw[QD Vc,hdl']at hjl
   obtain⟨u,h4,h5,h6⟩:=QBM hQ' j x hx
   refine⟨u,?_,h5,RepA.keep hk (.f h6)⟩
   rw[hcell,if_pos ⟨by omega,by omega⟩,show o+j - o=j by omega]
   exact h4)
  ·refine⟨_,.tup [],_,_,Z,he,⟨rfl,d'.map (·.1),?_,?_,rfl⟩,s1,s2,.tup _ _ rfl (fun j a u h=>by simp at h)⟩
   ·rw[← hd];exact hp.map _
   ·unfold SrtF
    rw[List.pairwise_map]
    refine List.Pairwise.imp_of_mem (fun {a b} ha hb hab=> ?_) hs
    rw[(hQ' a ha).1,(hQ' b hb).1,Vj]at hab
    exact hab
end Go.Proofs.YtjfchihkhpinmaaGreatDoor
