/-
  The reference's text of a directory. No statement of the seat is proved here; no conditions.
-/
import Derived.Test.YtjfchihkhpinmaaGreatDoorTtI
import Derived.Test.YtjfchihkhpinmaaGreatDoorDvP
namespace Go.Proofs.YtjfchihkhpinmaaGreatDoor
open Go.RowKit Go.Shelf
set_option linter.unusedVariables false
set_option linter.unusedSimpArgs false
set_option maxRecDepth 100000

theorem QC9 (a b:List UInt8):bs (a++b)=bs a++bs b:=by
 apply Yk
 show(a++b)=_
 simp [bs]
theorem bs_toL (a:List UInt8):(bs a).data.toList=a:=rfl
theorem Mz {tx:List FT→List UInt8}{L:List Nd}{s:Nat}{d:Nd}{S:ByteArray}(h:L[s]? = some d) (hl:Xm digV tx d=S.data.toList):bs (txL tx (L.take (s+1)))=bs (txL tx (L.take s))++S:=by
 rw[Jd h,QC9,hl]
set_option maxHeartbeats 4000000 in
theorem text_w (l:List FT) (tx:List FT→List UInt8) (hG:Gd PO l) (hz:Sz l) (hd:∀ n fs,(n,.inr fs)∈nds l→(tx fs).length≤10000000∧FRet Tryz.prog 42 [.f (QY fs)] [.c (.v (.str (bs (tx fs))))]) :
  FRet Tryz.prog 42 [.f (QY l)] [.c (.v (.str (bs (txL tx (nds l)))))]:=by
 obtain⟨nn,cs,kn⟩:=names_n hG hz
 have hF:=hide (show ∀ n f,(n,.inl f)∈nds l→f.2.2.length≤100000∧n.length≤1000∧FRet Tryz.prog 44 [.f (QY l),.f (.str (bs n))] [.c (.v (QY [f])),.c (.v (.bool false))]from fun n f hm=>by
  have h1:=UB hz hm
  have h2:=hz.by_ f (hG.file (Vg.1 hm)).1
  dsimp only at h1
  exact⟨h2,by omega,QDB hG hz hm⟩)
 have hD:=hide (show ∀ n fs,(n,.inr fs)∈nds l→n.length≤1000∧(tx fs).length≤10000000∧FRet Tryz.prog 42 [.f (QY fs)] [.c (.v (.str (bs (tx fs))))]∧FRet Tryz.prog 44 [.f (QY l),.f (.str (bs n))] [.c (.v (QY fs)),.c (.v (.bool true))]from fun n fs hm=>by
  have h1:=UB hz hm
  dsimp only at h1
  exact⟨by omega,(hd n fs hm).1,(hd n fs hm).2,below_d hG hz hm⟩)
 have hTL:=hide (show ∀ s,s≤(nds l).length→(txL tx ((nds l).take s)).length≤10000*s from fun s=>Mu fun d hm=>by have:=UB hz hm;omega)
 have hL:(nds l).length≤1000:=by have:=JD l;have:=hz.len;omega
 clear hd hz hG
 generalize hnd:nds l=L at*
 clear hnd
 refine FCall.of_ax Oj ?_
 dsimp only[jm,ji,jf,jl,jL,jn,je,jx,jT,jC,jB,jq,jt,ju,jA,km,kf,kl,kn,kx,Nk]
 generalize QY l=F0 at*
 refine zrs ?_
 repeat'(first|(simp -implicitDefEqProofs only[*,List.length_map,zr,seval,reduceIte,reduceCtorEq])|(apply zk<;>intro hc)|(refine zp ?_)|(refine zd ?_)|(refine cP (kn) ?_)|(refine cD (kn) ?_)|(refine cF (kn) ?_)|fail)
 clear kn
 refine QK (S:=Nat) 66 [0,4] [] (fun s=>[(3,.f (.str (bs (txL tx (L.take s))))),(6,.f (.int .i64 s))]) (fun s=>[]) (fun s=>s≤L.length) (fun s=>L.length - s) (0) [] ?_ ?_ fun s hs=> ?_
 ·exact Nat.zero_le _
 ·refine wk_i ?_ ?_<;>simp only[List.take_zero,zw,seval,reduceIte,reduceCtorEq]
  all_goals rfl
 rcases Nat.lt_or_ge s L.length with hlt|hge
 ·obtain⟨d,hx⟩:=QH hlt
  have h4:=XU hlt (by omega)
  have h2:=lt_t hlt
  have hT:=hTL.out s hs
  have hTz:(bs (txL tx (L.take s))).size≤10000000:=by rw[Jy];omega
  clear hT
  obtain⟨n,f|fs⟩:=d
  ·obtain⟨hb1,hb2,kB⟩:=hF.out n f (List.mem_of_getElem? hx)
   have kD:=Wa f.2.2 (by omega)
   obtain⟨fp,fr,fb⟩:=f
   dsimp only at kD hb1
   have hdz:=JZ fb
   generalize hdv:digV fb=dv at*
   replace hdv:=hide hdv
   have hNz:=Jy n
   have hx1:(L.map fNd1)[s]? = some [.str (bs n)]:=by rw[List.getElem?_map,hx];rfl
   generalize hN:bs n=N at*
   generalize hS0:bs (txL tx (L.take s))=S0 at*
   replace hS0:=hide hS0
   simp only[QY,List.map]at kB
   cases fr with
   | true=>
    have z0:(⟨#[102,105,108,101,32]⟩:ByteArray).size=5:=rfl
    have z1:(⟨#[32]⟩:ByteArray).size=1:=rfl
    have z2:(⟨#[32,120,10]⟩:ByteArray).size=3:=rfl
    have l0:=eq_true (show(⟨#[102,105,108,101,32]⟩:ByteArray).size+N.size≤9223372036854775807 by simp only[ByteArray.size_append,z0,z1,z2];omega)
    have l1:=eq_true (show((⟨#[102,105,108,101,32]⟩:ByteArray)++N).size+(⟨#[32]⟩:ByteArray).size≤9223372036854775807 by simp only[ByteArray.size_append,z0,z1,z2];omega)
    have l2:=eq_true (show(((⟨#[102,105,108,101,32]⟩:ByteArray)++N)++(⟨#[32]⟩:ByteArray)).size+dv.size≤9223372036854775807 by simp only[ByteArray.size_append,z0,z1,z2];omega)
    have l3:=eq_true (show((((⟨#[102,105,108,101,32]⟩:ByteArray)++N)++(⟨#[32]⟩:ByteArray))++dv).size+(⟨#[32,120,10]⟩:ByteArray).size≤9223372036854775807 by simp only[ByteArray.size_append,z0,z1,z2];omega)
    have l5:=eq_true (show S0.size+(((((⟨#[102,105,108,101,32]⟩:ByteArray)++N)++(⟨#[32]⟩:ByteArray))++dv)++(⟨#[32,120,10]⟩:ByteArray)).size≤9223372036854775807 by simp only[ByteArray.size_append,z0,z1,z2];omega)
    clear z0 z1 z2
    have hlt2:Xm digV tx (n,.inl (fp,true,fb))=(((((⟨#[102,105,108,101,32]⟩:ByteArray)++N)++(⟨#[32]⟩:ByteArray))++dv)++(⟨#[32,120,10]⟩:ByteArray)).data.toList:=by
     rw[← hN,← hdv.out];simp [Xm,JW,bs]
    have hsn:=Mz (tx:=tx) hx hlt2
    rw[hS0.out]at hsn
    replace hsn:=hide hsn
    clear hlt2 hNz hdz hb1 hb2 hTz
    refine zrs ?_
    repeat'(first|(simp -implicitDefEqProofs only[*,QE,fFt,zr,seval,reduceIte,reduceCtorEq])|(apply zk<;>intro hc)|(refine zp ?_)|(refine zd ?_)|(refine cP (kB) ?_)|(refine cD (kB) ?_)|(refine cF (kB) ?_)|(refine cP (kD) ?_)|(refine cD (kD) ?_)|(refine cF (kD) ?_)|fail)
    refine⟨s+1,hlt,by omega,?_⟩
    rw[hsn.out]
    refine wk_i ?_ ?_<;>simp only[zw,seval,reduceIte,reduceCtorEq]
   | false=>
    have z0:(⟨#[102,105,108,101,32]⟩:ByteArray).size=5:=rfl
    have z1:(⟨#[32]⟩:ByteArray).size=1:=rfl
    have z2:(⟨#[32,45,10]⟩:ByteArray).size=3:=rfl
    have l0:=eq_true (show(⟨#[102,105,108,101,32]⟩:ByteArray).size+N.size≤9223372036854775807 by simp only[ByteArray.size_append,z0,z1,z2];omega)
    have l1:=eq_true (show((⟨#[102,105,108,101,32]⟩:ByteArray)++N).size+(⟨#[32]⟩:ByteArray).size≤9223372036854775807 by simp only[ByteArray.size_append,z0,z1,z2];omega)
    have l2:=eq_true (show(((⟨#[102,105,108,101,32]⟩:ByteArray)++N)++(⟨#[32]⟩:ByteArray)).size+dv.size≤9223372036854775807 by simp only[ByteArray.size_append,z0,z1,z2];omega)
    have l3:=eq_true (show((((⟨#[102,105,108,101,32]⟩:ByteArray)++N)++(⟨#[32]⟩:ByteArray))++dv).size+(⟨#[32,45,10]⟩:ByteArray).size≤9223372036854775807 by simp only[ByteArray.size_append,z0,z1,z2];omega)
    have l5:=eq_true (show S0.size+(((((⟨#[102,105,108,101,32]⟩:ByteArray)++N)++(⟨#[32]⟩:ByteArray))++dv)++(⟨#[32,45,10]⟩:ByteArray)).size≤9223372036854775807 by simp only[ByteArray.size_append,z0,z1,z2];omega)
    clear z0 z1 z2
    have hlt2:Xm digV tx (n,.inl (fp,false,fb))=(((((⟨#[102,105,108,101,32]⟩:ByteArray)++N)++(⟨#[32]⟩:ByteArray))++dv)++(⟨#[32,45,10]⟩:ByteArray)).data.toList:=by
     rw[← hN,← hdv.out];simp [Xm,JW,bs]
    have hsn:=Mz (tx:=tx) hx hlt2
    rw[hS0.out]at hsn
    replace hsn:=hide hsn
    clear hlt2 hNz hdz hb1 hb2 hTz
    refine zrs ?_
    repeat'(first|(simp -implicitDefEqProofs only[*,QE,fFt,zr,seval,reduceIte,reduceCtorEq])|(apply zk<;>intro hc)|(refine zp ?_)|(refine zd ?_)|(refine cP (kB) ?_)|(refine cD (kB) ?_)|(refine cF (kB) ?_)|(refine cP (kD) ?_)|(refine cD (kD) ?_)|(refine cF (kD) ?_)|fail)
    refine⟨s+1,hlt,by omega,?_⟩
    rw[hsn.out]
    refine wk_i ?_ ?_<;>simp only[zw,seval,reduceIte,reduceCtorEq]
  ·obtain⟨hb2,hb1,kT,kB⟩:=hD.out n fs (List.mem_of_getElem? hx)
   have kD:=Wa (tx fs) (by omega)
   have hdz:=JZ (tx fs)
   generalize hdv:digV (tx fs)=dv at*
   replace hdv:=hide hdv
   have hNz:=Jy n
   have hx1:(L.map fNd1)[s]? = some [.str (bs n)]:=by rw[List.getElem?_map,hx];rfl
   generalize hN:bs n=N at*
   generalize hS0:bs (txL tx (L.take s))=S0 at*
   replace hS0:=hide hS0
   have z0:(⟨#[100,105,114,32]⟩:ByteArray).size=4:=rfl
   have z1:(⟨#[32]⟩:ByteArray).size=1:=rfl
   have z2:(⟨#[10]⟩:ByteArray).size=1:=rfl
   have l0:=eq_true (show(⟨#[100,105,114,32]⟩:ByteArray).size+N.size≤9223372036854775807 by simp only[ByteArray.size_append,z0,z1,z2];omega)
   have l1:=eq_true (show((⟨#[100,105,114,32]⟩:ByteArray)++N).size+(⟨#[32]⟩:ByteArray).size≤9223372036854775807 by simp only[ByteArray.size_append,z0,z1,z2];omega)
   have l2:=eq_true (show(((⟨#[100,105,114,32]⟩:ByteArray)++N)++(⟨#[32]⟩:ByteArray)).size+dv.size≤9223372036854775807 by simp only[ByteArray.size_append,z0,z1,z2];omega)
   have l3:=eq_true (show((((⟨#[100,105,114,32]⟩:ByteArray)++N)++(⟨#[32]⟩:ByteArray))++dv).size+(⟨#[10]⟩:ByteArray).size≤9223372036854775807 by simp only[ByteArray.size_append,z0,z1,z2];omega)
   have l5:=eq_true (show S0.size+(((((⟨#[100,105,114,32]⟩:ByteArray)++N)++(⟨#[32]⟩:ByteArray))++dv)++(⟨#[10]⟩:ByteArray)).size≤9223372036854775807 by simp only[ByteArray.size_append,z0,z1,z2];omega)
   clear z0 z1 z2
   have hlt2:Xm digV tx (n,.inr fs)=(((((⟨#[100,105,114,32]⟩:ByteArray)++N)++(⟨#[32]⟩:ByteArray))++dv)++(⟨#[10]⟩:ByteArray)).data.toList:=by
    rw[← hN,← hdv.out];simp [Xm,Mh,bs]
   have hsn:=Mz (tx:=tx) hx hlt2
   rw[hS0.out]at hsn
   replace hsn:=hide hsn
   clear hlt2 hNz hdz hb2 hTz
   have hTB:=bs_toL (tx fs)
   have l9:=eq_true (show(bs (tx fs)).size≤140737488355328 by rw[Jy];omega)
   simp only[frB]at kD
   generalize bs (tx fs)=TB at*
   generalize hfF:QY fs=FF at*
   generalize tx fs=TF at*
   refine zrs ?_
   repeat'(first|(simp -implicitDefEqProofs only[*,QE,zr,seval,reduceIte,reduceCtorEq])|(apply zk<;>intro hc)|(refine zp ?_)|(refine zd ?_)|(refine cP (kB) ?_)|(refine cD (kB) ?_)|(refine cF (kB) ?_)|(refine cP (kT) ?_)|(refine cD (kT) ?_)|(refine cF (kT) ?_)|(refine cP (kD) ?_)|(refine cD (kD) ?_)|(refine cF (kD) ?_)|fail)
   refine⟨s+1,hlt,by omega,?_⟩
   rw[hsn.out]
   refine wk_i ?_ ?_<;>simp only[zw,seval,reduceIte,reduceCtorEq]
 ·obtain rfl:s=L.length:=by omega
  have h2:=lt_f hge
  have h3:=List.take_length (l:=L)
  refine zrs ?_
  repeat'(first|(simp -implicitDefEqProofs only[*,zr,seval,reduceIte,reduceCtorEq])|(apply zk<;>intro hc)|(refine zp ?_)|(refine zd ?_)|fail)
  exact VO
theorem text_f:∀ (k:Nat) (l:List FT),Gd PO l→Short k l→Sz l→FRet Tryz.prog 42 [.f (QY l)] [.c (.v (.str (bs (txt digV k l))))]
 | 0,l,hG,hs,hz=>by
  have e:l = []:=by
   cases l with
   | nil=>rfl
   | cons x l=>exact absurd (hs x List.mem_cons_self) (Nat.not_lt_zero _)
  subst e
  exact text_w [] (fun _=>[]) hG hz (fun n fs h=>by cases h)
 | k+1,l,hG,hs,hz=>
  text_w l (txt digV k) hG hz fun n fs h=>by
   have hg:=Vg.1 h
   obtain⟨hGf,_⟩:=hG.dir hg
   have hzf:=(hz.dir hg).1
   exact⟨UN hzf,text_f k fs hGf (hs.dir hg) hzf⟩
end Go.Proofs.YtjfchihkhpinmaaGreatDoor
namespace Go.Proofs.YtjfchihkhpinmaaGreatDoor
open Go.RowKit Go.Shelf
set_option linter.unusedVariables false
set_option linter.unusedSimpArgs false
set_option maxRecDepth 100000

def encB (b:List UInt8):List FV:=[frB b]
def Oz (l:List (List UInt8)):FV:= .fr 1 (l.map encB)
def OZ (ct:List FT→List (List UInt8)) (d:Nd):List (List UInt8):=match d.2 with
 | .inl f=>[f.2.2]
 | .inr fs=>ct fs
def Zf (ct:List FT→List (List UInt8)) (T:List UInt8) (L:List Nd):List (List UInt8):=T::L.flatMap (OZ ct)
theorem QDk {ct:List FT→List (List UInt8)}{T:List UInt8}{L:List Nd}{s:Nat}{d:Nd}(h:L[s]? = some d):Zf ct T (L.take (s+1))=Zf ct T (L.take s)++OZ ct d:=by
 unfold Zf
 rw[List.take_add_one,h,List.flatMap_append]
 show _::(_++(OZ ct d++ []))=_
 rw[List.append_nil];rfl
theorem QBY {ct:List FT→List (List UInt8)}{T:List UInt8}{L:List Nd}{s:Nat} : (Zf ct T (L.take s)).length≤(Zf ct T L).length:=by
 unfold Zf
 rw[List.length_cons,List.length_cons]
 have:(L.take s).flatMap (OZ ct)++(L.drop s).flatMap (OZ ct)=L.flatMap (OZ ct):=by rw[← List.flatMap_append,List.take_append_drop]
 rw[← this,List.length_append];omega
theorem QB7 (dg:List UInt8→ByteArray) (k:Nat) (l:List FT):cont dg (k+1) l=Zf (cont dg k) (txt dg (k+1) l) (nds l):=rfl
theorem sum_perm {α : Type}{f : α→Nat}{l l':List α}(h:l.Perm l'):(l.map f).sum=(l'.map f).sum:=(h.map f).sum_nat
theorem Uf {α β : Type}{f : α→List β} : ∀ {l:List α},(l.flatMap f).length=(l.map fun a=>(f a).length).sum
 | []=>rfl
 | a::l=>by rw[List.flatMap_cons,List.length_append,Uf,List.map_cons,List.sum_cons]
theorem sum_le {α : Type}{f g : α→Nat} : ∀ {l:List α},(∀ a∈l,f a≤g a)→(l.map f).sum≤(l.map g).sum
 | [],_=>Nat.le_refl _
 | a::l,h=>by
  rw[List.map_cons,List.map_cons,List.sum_cons,List.sum_cons]
  exact Nat.add_le_add (h a List.mem_cons_self) (sum_le fun b hb=>h b (List.mem_cons_of_mem _ hb))
theorem sum_mul {α : Type}{f : α→Nat}{c:Nat} : ∀ {l:List α},(l.map fun a=>c*f a).sum=c*(l.map f).sum
 | []=>by simp
 | a::l=>by rw[List.map_cons,List.map_cons,List.sum_cons,List.sum_cons,sum_mul,Nat.mul_add]
theorem QAH (dg:List UInt8→ByteArray):∀ (k:Nat) (l:List FT),Gd PO l→(cont dg k l).length≤1+k*l.length
 | 0,l,_=>by simp [cont]
 | k+1,l,hG=>by
  rw[QB7]
  unfold Zf
  rw[List.length_cons,Uf]
  have h1:((nds l).map fun d=>(OZ (cont dg k) d).length).sum≤((nds l).map fun d=>(k+1)*(exN d).length).sum:=sum_le fun d hd=>by
   have hg:=Vg.1 hd
   obtain⟨n,f|fs⟩:=d
   ·show 1≤(k+1)*1
    omega
   ·have ih:=QAH dg k fs (hG.dir hg).1
    have hne:=(Zr l _ hg).1
    have hp:1≤fs.length:=List.length_pos_iff.2 hne
    show(cont dg k fs).length≤(k+1)*(fs.map _).length
    rw[List.length_map,Nat.succ_mul];omega
  rw[sum_mul]at h1
  have h2:((nds l).map fun d=>(exN d).length).sum=l.length:=by
   rw[sum_perm (Ma hG).perm,← Uf,KM]
  rw[h2]at h1
  omega
set_option maxHeartbeats 4000000 in
theorem Ml (l:List FT) (T:List UInt8) (ct:List FT→List (List UInt8)) (hG:Gd PO l) (hz:Sz l) (hT:T.length≤10000000) (kt:FRet Tryz.prog 42 [.f (QY l)] [.c (.v (.str (bs T)))]) (hn:(Zf ct T (nds l)).length≤10000000) (hd:∀ n fs,(n,.inr fs)∈nds l→FRet Tryz.prog 16 [.f (QY fs)] [.c (.v (Oz (ct fs)))]) :
  FRet Tryz.prog 16 [.f (QY l)] [.c (.own 1 (Zf ct T (nds l)).length (rowF encB (Zf ct T (nds l))))]:=by
 obtain⟨nn,cs,kn⟩:=names_n hG hz
 have hF:=hide (show ∀ n f,(n,.inl f)∈nds l→f.2.2.length≤100000∧FRet Tryz.prog 44 [.f (QY l),.f (.str (bs n))] [.c (.v (QY [f])),.c (.v (.bool false))]from fun n f hm=>by
  have h2:=hz.by_ f (hG.file (Vg.1 hm)).1
  exact⟨h2,QDB hG hz hm⟩)
 have hD:=hide (show ∀ n fs,(n,.inr fs)∈nds l→FRet Tryz.prog 16 [.f (QY fs)] [.c (.v (Oz (ct fs)))]∧FRet Tryz.prog 44 [.f (QY l),.f (.str (bs n))] [.c (.v (QY fs)),.c (.v (.bool true))]from fun n fs hm=>⟨hd n fs hm,below_d hG hz hm⟩)
 have hL:(nds l).length≤1000:=by have:=JD l;have:=hz.len;omega
 clear hd hz hG
 generalize hnd:nds l=L at*
 clear hnd
 have hTB:=bs_toL T
 have l9:=eq_true (show(bs T).size≤140737488355328 by rw[Jy];omega)
 clear hT
 generalize bs T=TB at*
 refine FCall.of_ax Ws ?_
 dsimp only[jm,ji,jf,jl,jL,jn,je,jx,jT,jC,jB,jq,jt,ju,jA,km,kf,kl,kn,kx,JO]
 generalize QY l=F0 at*
 refine zrs ?_
 repeat'(first|(simp -implicitDefEqProofs only[*,List.length_map,zr,seval,reduceIte,reduceCtorEq])|(apply zk<;>intro hc)|(refine zp ?_)|(refine zd ?_)|(refine cP (kt) ?_)|(refine cD (kt) ?_)|(refine cF (kt) ?_)|(refine cO (kt) ?_)|(refine cP (kn) ?_)|(refine cD (kn) ?_)|(refine cF (kn) ?_)|(refine cO (kn) ?_)|fail)
 clear kn kt
 refine QK (S:=Nat) 46 [0,4] [] (fun s=>[(3,.sl 12 1 1 0 (Zf ct T (L.take s)).length),(6,.f (.int .i64 s))]) (fun s=>[(12,1,AObj.cells ((rowF encB (Zf ct T (L.take s))).map .f))]) (fun s=>s≤L.length) (fun s=>L.length - s) (0) [] ?_ ?_ fun s hs=> ?_
 ·exact Nat.zero_le _
 ·rw[show Zf ct T (L.take 0) = [T]from by rw[List.take_zero];rfl]
  refine wk_i ?_ ?_<;>simp only[zw,seval,reduceIte,reduceCtorEq]
  exact SlotsOk.of_eq rfl
 rcases Nat.lt_or_ge s L.length with hlt|hge
 ·obtain⟨d,hx⟩:=QH hlt
  have h4:=XU hlt (by omega)
  have h2:=lt_t hlt
  have hsn:=QDk (ct:=ct) (T:=T) hx
  have hc1:=QBY (ct:=ct) (T:=T) (L:=L) (s:=s)
  have hc2:=QBY (ct:=ct) (T:=T) (L:=L) (s:=s+1)
  rw[hsn,List.length_append]at hc2
  have hRL:∀ A:List (List UInt8),(rowF encB A).length=A.length:=fun A=>by rw[QD (sz:=1) (fun _=>rfl)];omega
  have hx1:(L.map fNd1)[s]? = some [.str (bs d.1)]:=by rw[List.getElem?_map,hx];rfl
  obtain⟨n,f|fs⟩:=d
  ·obtain⟨hb1,kB⟩:=hF.out n f (List.mem_of_getElem? hx)
   obtain⟨fp,fr,fb⟩:=f
   simp only[QY,List.map]at kB
   dsimp only at hx1
   have e1:OZ ct (n,.inl (fp,fr,fb)) = [fb]:=rfl
   rw[e1]at hsn hc2
   have q1:=eq_true (show((Zf ct T (L.take s)).length+1)*24≤140737488355328 by omega)
   generalize Zf ct T (L.take s)=A at*
   have hRA:=hRL A
   have hone:(frB fb).isOne=true:=rfl
   clear hRL
   replace hsn:=hide hsn
   clear hc1 hc2 hTB l9
   refine zrs ?_
   repeat'(first|(simp -implicitDefEqProofs only[*,fFt,QE,zr,seval,reduceIte,reduceCtorEq])|(apply zk<;>intro hc)|(refine zp ?_)|(refine zd ?_)|(refine cP (kB) ?_)|(refine cD (kB) ?_)|(refine cF (kB) ?_)|(refine cO (kB) ?_)|fail)
   refine⟨s+1,hlt,by omega,?_⟩
   rw[hsn.out,List.length_append,Vy,List.map_append]
   refine wk_i ?_ ?_<;>simp only[zw,seval,reduceIte,reduceCtorEq]
   all_goals exact SlotsOk.app (SlotsOk.fs rfl) (SlotsOk.of_eq rfl)
  ·obtain⟨kC,kB⟩:=hD.out n fs (List.mem_of_getElem? hx)
   dsimp only at hx1
   have e1:OZ ct (n,.inr fs)=ct fs:=rfl
   rw[e1]at hsn hc2
   generalize ct fs=B at*
   have q1:=eq_true (show((Zf ct T (L.take s)).length+B.length)*24≤140737488355328 by omega)
   generalize Zf ct T (L.take s)=A at*
   have hRA:=hRL A
   have hBl:(B.map encB).length=B.length:=List.length_map ..
   have hBf:(B.map encB).flatten=rowF encB B:=rfl
   simp only[Oz]at kC
   generalize B.map encB=BB at*
   clear hRL
   replace hsn:=hide hsn
   clear hc1 hc2 hTB l9 e1
   generalize QY fs=FF at*
   refine zrs ?_
   repeat'(first|(simp -implicitDefEqProofs only[*,QE,zr,seval,reduceIte,reduceCtorEq])|(apply zk<;>intro hc)|(refine zp ?_)|(refine zd ?_)|(refine cP (kB) ?_)|(refine cD (kB) ?_)|(refine cF (kB) ?_)|(refine cO (kB) ?_)|(refine cP (kC) ?_)|(refine cD (kC) ?_)|(refine cF (kC) ?_)|(refine cO (kC) ?_)|fail)
   refine⟨s+1,hlt,by omega,?_⟩
   rw[hsn.out,List.length_append,Yb,List.map_append]
   refine wk_i ?_ ?_<;>simp only[zw,seval,reduceIte,reduceCtorEq]
   all_goals exact SlotsOk.app (SlotsOk.fs rfl) (SlotsOk.of_eq (by first|rfl|(rw[hBf])))
 ·obtain rfl:s=L.length:=by omega
  have h2:=lt_f hge
  have h3:=List.take_length (l:=L)
  refine zrs ?_
  repeat'(first|(simp -implicitDefEqProofs only[*,zr,seval,reduceIte,reduceCtorEq])|(apply zk<;>intro hc)|(refine zp ?_)|(refine zd ?_)|fail)
  exact KV rfl (by rw[QD (sz:=1) (fun _=>rfl)];exact Nat.le_refl _)
theorem bss_frz {args:List AV}{f:FuncId}{A:List (List UInt8)}(k:FRet Tryz.prog f args [.c (.own 1 A.length (rowF encB A))]):FRet Tryz.prog f args [.c (.v (Oz A))]:=
 k.frz (ys:=[Oz A]) ⟨⟨A.map encB,rfl,by rw[List.length_map],fun r hr=>by
   obtain⟨x,_,rfl⟩:=List.mem_map.1 hr;rfl,by
   rw[List.take_of_length_le (by rw[QD (sz:=1) (fun _=>rfl)];exact Nat.le_refl _)];rfl⟩,rfl⟩
theorem Mm:∀ (k:Nat),k≤201→∀ (l:List FT),Gd PO l→Short k l→Sz l→FRet Tryz.prog 16 [.f (QY l)] [.c (.v (Oz (cont digV (k+1) l)))]
 | 0,_,l,hG,hs,hz=>by
  have e:l = []:=by
   cases l with
   | nil=>rfl
   | cons x l=>exact absurd (hs x List.mem_cons_self) (Nat.not_lt_zero _)
  subst e
  exact bss_frz (Ml [] [] (fun _=>[]) hG hz (by simp) (text_f 0 [] hG hs hz) (by simp [Zf,nds,grp,srtS]) (fun n fs h=>by cases h))
 | k+1,hk,l,hG,hs,hz=>by
  have hl:=hz.len
  have hsl:Short (k+2) l:=fun x hx=>Nat.lt_succ_of_lt (hs x hx)
  refine bss_frz (Ml l (txt digV (k+2) l) (cont digV (k+1)) hG hz (UN hz) (text_f (k+2) l hG hsl hz) ?_ fun n fs h=> ?_)
  ·have:=QAH digV (k+2) l hG
   rw[QB7]at this
   have h2:(k+2)*l.length≤1000*1000:=Nat.mul_le_mul (by omega) hl
   exact Nat.le_trans this (by omega)
  ·have hg:=Vg.1 h
   obtain⟨hGf,_⟩:=hG.dir hg
   exact Mm k (by omega) fs hGf (hs.dir hg) (hz.dir hg).1
end Go.Proofs.YtjfchihkhpinmaaGreatDoor
