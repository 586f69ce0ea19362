/-
  TreeOf, walked. No statement of the seat is proved here; no conditions.
-/
import Derived.Test.YtjfchihkhpinmaaGreatDoorTtU
namespace Go.Proofs.YtjfchihkhpinmaaGreatDoor
open Go.RowKit Go.Shelf
set_option linter.unusedVariables false
set_option linter.unusedSimpArgs false
set_option maxRecDepth 100000

def toM (O:List Ob):Mt2:=O.map fun x=>(x.1,frB x.2)
def putO (O:List Ob) (b:List UInt8):List Ob:=if hasT (digV b) (toM O)=true then O else O++ [(digV b,b)]
def OQ (O:List Ob) (cs:List (List UInt8)):List Ob:=cs.foldl putO O
theorem setT_no {s:ByteArray}{y:FV} : ∀ {L:Mt2},hasT s L=false→setT s y L=L++ [(s,y)]
 | [],_=>rfl
 | p::L,h=>by
  have h':(decide (p.1=s)||hasT s L)=false:=h
  rw[Bool.or_eq_false_iff]at h'
  unfold setT
  rw[if_neg (of_decide_eq_false h'.1),setT_no h'.2];rfl
theorem putM_to {O:List Ob}{b:List UInt8} : putM (toM O) b=toM (putO O b):=by
 unfold putM putO
 by_cases h:hasT (digV b) (toM O)=true
 ·rw[if_pos h,if_pos h]
 ·rw[if_neg h,if_neg h,setT_no (Bool.not_eq_true _▸h)]
  unfold toM
  rw[List.map_append];rfl
theorem puts_to:∀ {cs:List (List UInt8)}{O:List Ob},puts (toM O) cs=toM (OQ O cs)
 | [],O=>rfl
 | c::cs,O=>by
  show puts (putM (toM O) c) cs=toM (OQ (putO O c) cs)
  rw[putM_to,puts_to]
theorem hasT_to {O:List Ob}{s:ByteArray} : hasT s (toM O)=true↔∃ x∈O,x.1=s:=by
 unfold hasT toM
 rw[List.any_map,List.any_eq_true]
 exact⟨fun ⟨x,h1,h2⟩=>⟨x,h1,of_decide_eq_true h2⟩,fun ⟨x,h1,h2⟩=>⟨x,h1,decide_eq_true h2⟩⟩
structure PutOk (cs:List (List UInt8)) (O:List Ob):Prop where
 nd:(O.map (·.1)).Nodup
 from_:∀ x∈O,x.1=digV x.2∧x.2∈cs
 all:∀ c∈cs,∃ x∈O,x.1=digV c
theorem PutOk.step {cs:List (List UInt8)}{O:List Ob}(h:PutOk cs O) (b:List UInt8):PutOk (cs++ [b]) (putO O b):=by
 by_cases hh:hasT (digV b) (toM O)=true
 ·have e:putO O b=O:=by unfold putO;rw[if_pos hh]
  rw[e]
  refine⟨h.nd,fun x hx=>⟨(h.from_ x hx).1,List.mem_append_left _ (h.from_ x hx).2⟩,fun c hc=> ?_⟩
  rcases List.mem_append.1 hc with hc|hc
  ·exact h.all c hc
  ·obtain rfl:=List.mem_singleton.1 hc
   exact hasT_to.1 hh
 ·have e:putO O b=O++ [(digV b,b)]:=by unfold putO;rw[if_neg hh]
  rw[e]
  refine⟨?_,fun x hx=> ?_,fun c hc=> ?_⟩
  ·rw[List.map_append,List.nodup_append]
   refine⟨h.nd,by simp,fun a ha c hc=> ?_⟩
   obtain⟨x,hx,rfl⟩:=List.mem_map.1 ha
   obtain rfl:=List.mem_singleton.1 hc
   exact fun e=>hh (hasT_to.2 ⟨x,hx,e⟩)
  ·rcases List.mem_append.1 hx with hx|hx
   ·exact⟨(h.from_ x hx).1,List.mem_append_left _ (h.from_ x hx).2⟩
   ·obtain rfl:=List.mem_singleton.1 hx
    exact⟨rfl,List.mem_append_right _ (List.mem_singleton.2 rfl)⟩
  ·rcases List.mem_append.1 hc with hc|hc
   ·obtain⟨x,hx,e⟩:=h.all c hc
    exact⟨x,List.mem_append_left _ hx,e⟩
   ·obtain rfl:=List.mem_singleton.1 hc
    exact⟨_,List.mem_append_right _ (List.mem_singleton.2 rfl),rfl⟩
theorem puts_ok:∀ (cs:List (List UInt8)){cs0:List (List UInt8)}{O:List Ob},PutOk cs0 O→PutOk (cs0++cs) (OQ O cs)
 | [],cs0,O,h=>by rw[List.append_nil];exact h
 | c::cs,cs0,O,h=>by
  have:=puts_ok cs (h.step c)
  rw[List.append_assoc]at this
  exact this
theorem Kl (cs:List (List UInt8)):PutOk cs (OQ [] cs):=by
 have:=puts_ok cs (cs0:=[]) (O:=[]) ⟨List.nodup_nil,(fun x hx=>by cases hx),(fun c hc=>by cases hc)⟩
 exact this
def ltO (a b:Ob):Bool:=strLt a.1 b.1
theorem strLt_tr {a b c:ByteArray}(h:strLt a b=true) (h2:strLt b c=true):strLt a c=true:=by
 rw[Vj]at*
 exact Zi h h2
theorem ltO_ok:LtOk ltO:=⟨fun a=>Qv a.1,fun h h2=>strLt_tr h h2⟩
theorem dis_nd {O:List Ob}(h:(O.map (·.1)).Nodup):Dis ltO O:=by
 rw[List.Nodup,List.pairwise_map]at h
 refine h.imp fun {a b} hab=> ?_
 unfold ltO
 rw[Vj,Vj]
 cases h1:Op.bytesLess a.1.data.toList b.1.data.toList with
 | true=>exact .inl rfl
 | false=>
  refine .inr ((WX h1).resolve_left fun e=>hab ?_)
  have:=Array.toList_inj.1 e
  cases ha:a.1 with
  | mk x=>cases hb:b.1 with
   | mk y=>rw[ha,hb]at this;rw[show x=y from this]
def objs (l:List FT):List Ob:=srtS ltO (OQ [] (cont digV 202 l))
theorem OX (l:List FT):IsSrt ltO (OQ [] (cont digV 202 l)) (objs l):=OB ltO_ok (dis_nd (Kl _).nd)
theorem objs_eq {l:List FT}{A l':List Ob}(hA:A.Perm (OQ [] (cont digV 202 l))) (hp:l'.Perm A) (hs:SrtO l'):l'=objs l:=by
 have hd:=dis_nd (Kl (cont digV 202 l)).nd
 have hp2:=hp.trans hA
 have hd':Dis ltO l':=hd.perm hp2.symm
 refine IsSrt.eq ltO_ok ⟨hp2,?_⟩
 unfold Dis at hd'
 unfold SrtO at hs
 exact(hd'.and hs).imp fun {a b} ⟨h1,h2⟩=>h1.resolve_right fun h=>by
  have h3:strLt b.1 a.1=true:=h
  rw[h3]at h2;cases h2
theorem QAx (l:List FT):QZ kOb (objs l):=by
 have h:=(OX l).srt
 intro i j x y hij hx hy
 rw[Srt,List.pairwise_iff_getElem]at h
 obtain⟨h1,rfl⟩:=List.getElem?_eq_some_iff.1 hx
 obtain⟨h2,rfl⟩:=List.getElem?_eq_some_iff.1 hy
 exact h i j h1 h2 hij
theorem QCl {l:List FT}{x:Ob}(hx:x∈objs l):x.1=digV x.2∧x.2∈cont digV 202 l:=(Kl _).from_ x ((OX l).perm.mem_iff.1 hx)
theorem objs_all {l:List FT}(hinj:∀ c∈cont digV 202 l,∀ c'∈cont digV 202 l,digV c=digV c'→c=c'):∀ c∈cont digV 202 l,(digV c,c)∈objs l:=fun c hc=>by
 obtain⟨x,hx,e⟩:=(Kl (cont digV 202 l)).all c hc
 have hx':=(OX l).perm.mem_iff.2 hx
 obtain⟨h1,h2⟩:=QCl hx'
 have e2:c=x.2:=hinj c hc x.2 h2 (by rw[← e,h1])
 rw[← e,e2];exact hx'
theorem QDc {tx:List FT→List UInt8}{d:Nd}(h:d.1.length≤200):(Xm digV tx d).length≤300:=by
 obtain⟨n,f|fs⟩:=d
 ·have:=Kt f.2.2
  simp only[Xm,JW,List.length_append,List.length_cons,List.length_nil]at h ⊢
  omega
 ·have:=Kt (tx fs)
  simp only[Xm,Mh,List.length_append,List.length_cons,List.length_nil]at h ⊢
  omega
theorem QCN {tx:List FT→List UInt8}{L:List Nd}(h:∀ d∈L,d.1.length≤200):∀ {s:Nat},s≤L.length→(txL tx (L.take s)).length≤300*s
 | 0,_=>Nat.le_refl _
 | s+1,hs=>by
  obtain⟨d,hd⟩:=QH (l:=L) (i:=s) (by omega)
  rw[Jd hd,List.length_append]
  have:=QDc (tx:=tx) (h d (List.mem_of_getElem? hd))
  have:=QCN (tx:=tx) h (by omega:s≤L.length)
  omega
theorem txt_len2 {k:Nat}{l:List FT}(h:Sz l):(txt digV k l).length≤300000:=by
 cases k with
 | zero=>simp [txt]
 | succ k=>
  have h1:=QCN (tx:=txt digV k) (L:=nds l) (fun d hd=>UB h hd) (s:=(nds l).length) (Nat.le_refl _)
  rw[List.take_length]at h1
  have h2:=JD l
  have h3:=h.len
  show(txL (txt digV k) (nds l)).length≤_
  omega
theorem QBX:∀ {k:Nat}{l:List FT},Gd PO l→Sz l→∀ c∈cont digV k l,c.length≤300000
 | 0,l,_,_,c,hc=>by cases hc
 | k+1,l,hG,hz,c,hc=>by
  rw[Ms]at hc
  rcases List.mem_cons.1 hc with rfl|hc
  ·exact txt_len2 hz
  ·obtain⟨d,hd,hc⟩:=List.mem_flatMap.1 hc
   have hg:=Vg.1 hd
   obtain⟨n,f|fs⟩:=d
   ·obtain rfl:=List.mem_singleton.1 hc
    have:=hz.by_ f (hG.file hg).1
    omega
   ·exact QBX (hG.dir hg).1 (hz.dir hg).1 c hc
theorem objs_ok {l:List FT}(h0:ckF l=0) (hl:(objs l).length≤4000):DOk (objs l):=by
 obtain⟨hG,hs,hll,hby,hpt⟩:=QC7 h0
 refine⟨hl,fun x hx=> ?_,QAx l⟩
 obtain⟨h1,h2⟩:=QCl hx
 have:=QBX hG ⟨hll,hpt,hby⟩ x.2 h2
 exact⟨h1,by omega⟩
def pick (O:List Ob) (sn:List Nat):List Ob:=sn.filterMap fun i=>O[i]?
theorem pick_snoc {O:List Ob}{sn:List Nat}{i:Nat}{x:Ob}(h:O[i]? = some x):pick O (sn++ [i])=pick O sn++ [x]:=by
 unfold pick
 rw[List.filterMap_append]
 simp [h]
theorem OS {O:List Ob} : ∀ {sn:List Nat},(∀ i∈sn,i<O.length)→(pick O sn).length=sn.length
 | [],_=>rfl
 | i::sn,h=>by
  have hi:=h i List.mem_cons_self
  unfold pick
  rw[List.filterMap_cons_some (List.getElem?_eq_getElem hi),List.length_cons,List.length_cons]
  exact congrArg (·+1) (OS fun j hj=>h j (List.mem_cons_of_mem _ hj))
structure SnOk (N:Nat) (sn:List Nat):Prop where
 nd:sn.Nodup
 lt:∀ i∈sn,i<N
theorem SnOk.len {N:Nat}{sn:List Nat}(h:SnOk N sn):sn.length≤N:=by
 have hp:sn.Perm ((List.range N).filter fun i=>decide (i∈sn)):=(List.perm_ext_iff_of_nodup h.nd (List.nodup_range.filter _)).2 fun i=>by
  rw[List.mem_filter,List.mem_range,decide_eq_true_eq]
  exact⟨fun hi=>⟨h.lt i hi,hi⟩,fun hi=>hi.2⟩
 have:=(List.filter_sublist (p:=fun i=>decide (i∈sn)) (l:=List.range N)).length_le
 rw[List.length_range,← hp.length_eq]at this
 exact this
theorem SnOk.snoc {N i:Nat}{sn:List Nat}(h:SnOk N sn) (hi:i<N) (hn:i∉sn):SnOk N (sn++ [i]):=by
 refine⟨List.nodup_append.2 ⟨h.nd,by simp,fun a ha b hb e=> ?_⟩,fun j hj=> ?_⟩
 ·obtain rfl:=List.mem_singleton.1 hb
  subst e;exact hn ha
 ·rcases List.mem_append.1 hj with hj|hj
  ·exact h.lt j hj
  ·obtain rfl:=List.mem_singleton.1 hj;exact hi
theorem QDT:∀ (O:List Ob),(List.range O.length).filterMap (fun i=>O[i]?)=O:=fun O=>by
 apply List.ext_getElem?
 intro j
 have e:∀ n,n≤O.length→(List.range n).filterMap (fun i=>O[i]?)=O.take n:=by
  intro n
  induction n with
  | zero=>intro _;rfl
  | succ n ih=>
   intro hn
   rw[List.range_succ,List.filterMap_append,ih (by omega)]
   have hx:O[n]? = some O[n]:=List.getElem?_eq_getElem (by omega)
   rw[List.take_add_one,hx]
   simp [hx]
 rw[e _ (Nat.le_refl _),List.take_length]
theorem pick_all {O:List Ob}{sn:List Nat}(h:SnOk O.length sn) (ha:∀ i,i<O.length→i∈sn):(pick O sn).Perm O:=by
 have hp:sn.Perm (List.range O.length):=(List.perm_ext_iff_of_nodup h.nd List.nodup_range).2 fun i=>⟨fun hi=>List.mem_range.2 (h.lt i hi),fun hi=>ha i (List.mem_range.1 hi)⟩
 have:=hp.filterMap fun i=>O[i]?
 rw[QDT]at this
 exact this
end Go.Proofs.YtjfchihkhpinmaaGreatDoor
namespace Go.Proofs.YtjfchihkhpinmaaGreatDoor
open Go.RowKit Go.Shelf
set_option linter.unusedVariables false
set_option linter.unusedSimpArgs false
set_option maxRecDepth 100000

theorem QCA (root:ByteArray) (O:List Ob) (hl:O.length≤1000000) (hb:∀ x∈O,x.2.length≤140737488355328) (h0:KC O=0) (hr:XZ root=true):FRet Tryz.prog 27 [.f (.str root),.f (XJ O)] [.c (.v (.int .i64 0))]:=by
 have k1:=UM O (by omega) (fun x hx=>by have:=hb x hx;omega)
 rw[h0]at k1
 have k2:=Xy root
 rw[hr]at k2
 have d0:decide ((0:Int)=0)=true:=rfl
 clear hb
 generalize XJ O=OO at*
 refine FCall.of_ax Ux ?_
 dsimp only[jm,ji,jf,jl,jL,jn,je,jx,jT,jC,jB,jq,jt,ju,jA,km,kf,kl,kn,kx,Zq]
 refine zrs ?_
 repeat'(first|(simp -implicitDefEqProofs only[*,zr,seval,reduceIte,reduceCtorEq])|(refine zp ?_)|(refine zd ?_)|(refine cP (k1) ?_)|(refine cD (k1) ?_)|(refine cF (k1) ?_)|(refine cO (k1) ?_)|(refine cP (k2) ?_)|(refine cD (k2) ?_)|(refine cF (k2) ?_)|(refine cO (k2) ?_)|fail)
 exact VO
theorem srt_of {l l':List FT}(hd:Dis ltF l) (hp:l'.Perm l) (hs:SrtF l'):Srt ltF l':=by
 have hd':Dis ltF l':=hd.perm hp.symm
 unfold Dis at hd'
 unfold SrtF at hs
 exact(hd'.and hs).imp fun {a b} ⟨h1,h2⟩=>h1.resolve_right fun h=>by rw[h]at h2;cases h2
theorem files_eq {k:Nat}{l l':List FT}(hG:Gd PO l) (hs:Short k l) (hp:l'.Perm (fl k [] l)) (hsr:SrtF l'):l'=l:=by
 refine fl_sort hG hs hp (srt_of ?_ hp hsr)
 have e:(l.map fun x:FT=>([]++x.1,x.2))=l:=by
  conv=>rhs;rw[← List.map_id l]
  rfl
 have h2:=QAB (pre:=[]) hG hs
 rw[e]at h2
 exact(Srt.dis (lt:=ltF) hG.srt).perm h2.symm
theorem QCV {p w:ByteArray}(h:w∈Xo p 47) (hp:p.size≤200):w.size≤200:=by have:=OC h;omega
theorem txt_nil (k:Nat):txt digV (k+1) [] = []:=rfl
theorem fl_nil (k:Nat):fl (k+1) [] [] = []:=rfl
set_option maxHeartbeats 2000000 in
theorem FilesOf_f (l:List FT) (O:List Ob) (h0:ckF l=0) (hO:O.length≤1000000) (hr:QZ kOb O) (hb:∀ x∈O,x.2.length≤140737488355328) (hck:KC O=0) (hc:∀ c∈cont digV 202 l,(digV c,c)∈O) :
  FRet Tryz.prog 8 [.f (.str (digV (txt digV 202 l))),.f (XJ O)] [.c (.own 3 l.length (rowF fFt l)),.c (.v (.int .i64 0))]:=by
 obtain⟨hG,hs,hll,hby,hpt⟩:=QC7 h0
 have hz:Sz l:=⟨hll,hpt,hby⟩
 have hs2:Short 202 l:=fun x hx=>Nat.lt_succ_of_lt (hs x hx)
 have k1:=QCA (digV (txt digV 202 l)) O hO hb hck Xz
 have k2:QBj Tryz.prog 28 (TRd O []) [] [.f (.str (digV (txt digV 202 l))),.f (.str ⟨#[]⟩)] (TRd O (fl 202 [] l)) [.c (.v (.int .i64 0))]:=by
  by_cases hne:l = []
  ·subst hne
   have e1:txt digV 202 [] = []:=txt_nil 201
   have e2:fl 202 [] [] = []:=fl_nil 201
   have k3:=Find_f O hO hr (x:=(digV (txt digV 202 []),txt digV 202 [])) (hc _ (QC5 digV))
   have k4:=QAk 201 [] hG hz
   rw[e1]at k3 k4 ⊢
   rw[e2]
   have e3:nds [] = []:=rfl
   rw[e3]at k4
   exact dir_e O (txt digV 201) _ k3 k4
  ·have:=dir_f O hO hr 202 l [] [] hG hs2 hz hne (fun x hx=>by have:=hpt x hx;simp only[List.length_nil];omega) (by simpa using hll) hc
   exact this
 have k3:=KU l (fun x hx=>⟨by have:=hpt x hx;omega,by have:=hby x hx;omega⟩) (by omega) (fun x hx hp w hw=>QCV hw hp)
 rw[h0]at k3
 have hfl:=fl_len (pre:=[]) hG hs2
 have hS:=hide (fun l'=>files_eq (k:=202) (l:=l) (l':=l') hG hs2)
 unfold TRd at k2
 have hB0:(fl 202 [] l).length≤1000000:=by omega
 replace hfl:=hide hfl
 clear h0 hr hb hck hc hG hs hby hpt hz hs2
 have d0:decide ((0:Int)=0)=true:=rfl
 have hone:(XJ O).isOne=true:=rfl
 generalize digV (txt digV 202 l)=root at*
 generalize XJ O=OO at*
 generalize fl 202 [] l=B at*
 refine FCall.of_ax Kd ?_
 dsimp only[jm,ji,jf,jl,jL,jn,je,jx,jT,jC,jB,jq,jt,ju,jA,km,kf,kl,kn,kx,UK]
 refine zrs ?_
 repeat'(first|(simp -implicitDefEqProofs only[*,zr,seval,reduceIte,reduceCtorEq])|(refine zp ?_)|(refine zd ?_)|(refine cP (k1) ?_)|(refine cD (k1) ?_)|(refine cF (k1) ?_)|(refine cO (k1) ?_)|fail)
 refine gP k2 18 1 [.f OO,.f .nil] [] [.f (.str root),.f (.str ⟨#[]⟩)] ?_ (hpc:=⟨rfl,.inl ⟨rfl,rfl,rfl⟩,rfl⟩)
 clear k2 k1
 repeat'(first|(simp -implicitDefEqProofs only[*,zr,seval,reduceIte,reduceCtorEq])|(refine zp ?_)|(refine zd ?_)|fail)
 refine Ys (f:=_) (args:=_) rfl rfl (OG (id:=21) (ver:=1) B rfl hB0) fun v H' hq=> ?_
 obtain⟨rfl,l',hp,hf,rfl⟩:=hq
 obtain rfl:=hS.out l' hp hf
 have hBl:B.length=l'.length:=hfl.out
 clear hS hp hf hfl hB0
 rw[hBl]
 clear hBl
 have hrl:=QD (l:=l') Vc
 refine zrs ?_
 repeat'(first|(simp -implicitDefEqProofs only[*,zr,seval,reduceIte,reduceCtorEq])|(refine zp ?_)|(refine zd ?_)|fail)
 refine gG k3 ⟨fz_so (Zx (enc:=fFt) Vc rfl rfl rfl),trivial⟩ ?_
 clear k3
 repeat'(first|(simp -implicitDefEqProofs only[*,zr,seval,reduceIte,reduceCtorEq])|(refine zp ?_)|(refine zd ?_)|fail)
 exact QCf rfl (by rw[QD Vc];exact Nat.le_refl _) rfl
end Go.Proofs.YtjfchihkhpinmaaGreatDoor
