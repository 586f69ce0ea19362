/-
  Maps whose entries are known, and a loop over one: rules of the engine. No statement of the seat is proved here; no conditions.
-/
import Derived.Maps.RangeRun
import Derived.Test.YtjfchihkhpinmaaGreatDoorRun
namespace Go.Proofs.YtjfchihkhpinmaaGreatDoor
open Go.RowKit
open Go.ChangeMaps (setBlock)
set_option linter.unusedVariables false
set_option linter.unusedSimpArgs false
set_option maxRecDepth 100000

def XK (L:List (ByteArray × FV)):List AV:=L.flatMap fun p=>[.f (.str p.1),.f p.2]
theorem Jp {p:ByteArray × FV}{L:List (ByteArray × FV)} : XK (p::L)=.f (.str p.1):: .f p.2::XK L:=rfl
theorem QBK:∀ {L:List (ByteArray × FV)},(XK L).length=2*L.length
 | []=>rfl
 | p::L=>by rw[Jp,List.length_cons,List.length_cons,List.length_cons,QBK];omega
def itA (m ver N:Nat) (sn:List Nat):List AV:= .map m ver:: .f (.int .i64 N)::sn.map fun (i:Nat)=>AV.f (.int .i64 i)
def hasT (s:ByteArray) (L:List (ByteArray × FV)):Bool:=L.any fun p=>decide (p.1=s)
def setT (s:ByteArray) (y:FV):List (ByteArray × FV)→List (ByteArray × FV)
 | []=>[(s,y)]
 | p::L=>if p.1=s then(p.1,y)::L else p::setT s y L
theorem QAW {s:ByteArray} : ∀ {L:List (ByteArray × FV)},tGet s (XK L)=some (hasT s L)
 | []=>rfl
 | (q,x)::L=>by
  show(if q=s then some true else tGet s (XK L))=some (decide (q=s)||hasT s L)
  by_cases h:q=s
  ·rw[if_pos h,decide_eq_true h,Bool.true_or]
  ·rw[if_neg h,decide_eq_false h,Bool.false_or,QAW]
theorem QAU {s:ByteArray}{y:FV} : ∀ {L:List (ByteArray × FV)},tSet s y (XK L)=some (XK (setT s y L))
 | []=>rfl
 | (q,x)::L=>by
  show(if q=s then some (.f (.str q):: .f y::XK L)else(tSet s y (XK L)).map fun r'=> .f (.str q):: .f x::r')=some (XK (if q=s then(q,y)::L else(q,x)::setT s y L))
  by_cases h:q=s
  ·rw[if_pos h,if_pos h];rfl
  ·rw[if_neg h,if_neg h,QAU];rfl
section
variable {P:Program}{R:Env→Heap→Prop}{Λ : Lams}{k:List It}{env:Env}{H:Heap}
theorem Uz {c:Oper}{j:Nat}{x:Operand}(h:Xe P c.op=some (.ext j x)):(j=0∧∃ t kt e,c.op=.range t x∧P.underlying t=some (.map kt e))∨(j=1∧c.op=.next x false)∨(j=2∧c.op=.entry x)∨
  (j=3∧∃ cl t kt e,c.op=.call cl∧cl.callee=.builtin .len∧cl.args = #[x]∧cl.argTypes = #[t]∧P.underlying t=some (.map kt e)):=by
 cases ho:c.op<;>rw[ho]at h<;>simp only[Xe]at h<;>try (cases h;done)
 case range t y=>
  split at h
  ·rename_i hm
   obtain⟨⟨kt,e⟩,hm⟩:=Option.isSome_iff_exists.1 hm
   simp only[Option.some.injEq,LOp.ext.injEq]at h
   obtain⟨rfl,rfl⟩:=h
   exact .inl ⟨rfl,t,kt,e,rfl,(ZV hm).1⟩
  ·cases h
 case next y b=>
  split at h
  ·rename_i hb
   subst hb
   simp only[Option.some.injEq,LOp.ext.injEq]at h
   obtain⟨rfl,rfl⟩:=h
   exact .inr (.inl ⟨rfl,rfl⟩)
  ·cases h
 case entry y=>
  simp only[Option.some.injEq,LOp.ext.injEq]at h
  obtain⟨rfl,rfl⟩:=h
  exact .inr (.inr (.inl ⟨rfl,rfl⟩))
 case call cl=>
  split at h
  case h_1=>
   rename_i hc
   split at h
   case h_2=>cases h
   rename_i y t ha hat
   split at h
   ·cases h
   split at h
   ·cases h
   split at h
   case isFalse=>cases h
   rename_i hm
   obtain⟨⟨kt,e⟩,hm⟩:=Option.isSome_iff_exists.1 hm
   simp only[Option.some.injEq,LOp.ext.injEq]at h
   obtain⟨rfl,rfl⟩:=h
   exact .inr (.inr (.inr ⟨rfl,cl,t,kt,e,rfl,hc,arr1 ha,arr1 hat,(ZV hm).1⟩))
  all_goals repeat' (first|cases h;done|split at h)
 case binOp=>
  split at h
  ·rename_i hn
   obtain rfl:=Option.some.inj h
   obtain⟨_,_,⟨h1,_⟩|⟨h1,_⟩⟩:=Xb hn<;>cases h1
  ·split at h
   ·rename_i hn
    obtain rfl:=Option.some.inj h
    obtain⟨_,_,neg,h1,_⟩:=YW hn
    cases h1
   ·cases h
 case alloc=>obtain⟨_,_,h⟩:=Option.map_eq_some_iff.1 h;cases h
 case load=>obtain⟨_,_,h⟩:=Option.map_eq_some_iff.1 h;cases h
 case store=>obtain⟨_,_,h⟩:=Option.map_eq_some_iff.1 h;cases h
 case build=>
  split at h
  ·split at h
   ·obtain⟨_,_,h⟩:=Option.map_eq_some_iff.1 h;cases h
   ·cases h
  ·cases h
 case field=>
  split at h
  ·obtain⟨_,_,h⟩:=Option.map_eq_some_iff.1 h;cases h
  ·cases h
 case indexAddr=>
  split at h
  ·obtain⟨_,_,h⟩:=Option.map_eq_some_iff.1 h;cases h
  ·cases h
 all_goals
  repeat' (first|cases h;done|split at h)
variable {G:QM}{Z:Nat→Prop}{w:World}{act:Act}
theorem cl_len {L:List (ByteArray × FV)}{m:List (ByteArray × Value)}(h:CL (RepA G Z w) (WO m) (XK L)):m.length=L.length:=by
 have h1:=h.len
 rw[QBK]at h1
 have h2:∀ m:List (ByteArray × Value),(WO m).length=2*m.length:=fun m=>by
  induction m with
  | nil=>rfl
  | cons p m ih=>rw[XA,List.length_cons,List.length_cons,List.length_cons,ih];omega
 rw[h2]at h1
 omega
theorem cl_at:∀ {L:List (ByteArray × FV)}{m:List (ByteArray × Value)},CL (RepA G Z w) (WO m) (XK L)→∀ (i:Nat) (p:ByteArray × FV) (q:ByteArray × Value),L[i]? = some p→m[i]? = some q→q.1=p.1∧RepA G Z w (.f p.2) q.2
 | p0::L,q0::m,h,0,p,q,hp,hq=>by
  obtain rfl:=Option.some.inj hp
  obtain rfl:=Option.some.inj hq
  rw[XA,Jp]at h
  obtain⟨⟨_,h0⟩,⟨_,h1⟩,_⟩:=h
  have:=h0.str_
  simp only[Value.string.injEq]at this
  exact⟨this,h1⟩
 | p0::L,q0::m,h,i+1,p,q,hp,hq=>by
  rw[XA,Jp]at h
  exact cl_at h.2.2 i p q hp hq
 | [],_,_,_,_,_,hp,_=>by simp at hp
 | _::_,[],_,_,_,_,_,hq=>by simp at hq
theorem St.iter (st:St P G H Z w){it v m ver N:Nat}{sn:List Nat}{L:List (ByteArray × FV)}(hi:H it=(v,some (.ty (itA m ver N sn) itTy))) (hm:H m=(ver,some (.ty (XK L) ZD))) (hN:N=L.length) :
  ∃ r bm es mm,G it=(v,some (some (r,0)))∧G m=(ver,some (some (bm,0)))∧w.heap[r]? = some (.mapIter (some bm) es.size sn.toArray es.size)∧w.heap[bm]? = some (.map es es.size)∧MapK es es.size mm∧CL (RepA G Z w) (WO mm) (XK L)∧es.size=L.length:=by
 obtain⟨bm,hG,_,es,clock,mm,hb,hK,hCL⟩:=st.tys (id:=m) (ver:=ver) (cs:=XK L) (by rw[hm];simp [Uh])
 have hlen:=cl_len hCL
 obtain⟨loc,h2,h3⟩:=st.obj it _ (by rw[hi])
 have h1:=st.ver it
 rw[hi]at h1
 have hck:=hK.2.1
 subst hck
 cases loc with
 | none=>exact h3.elim
 | some p=>
  obtain⟨r,o⟩:=p
  obtain⟨rfl,arr,h4,h5⟩:=h3
  unfold TyO at h4
  rw[if_neg (by decide),if_pos rfl]at h4
  obtain⟨bm',since,seen,k1,rfl,k3⟩:=h4
  have a0:=h5 0 _ rfl
  have a1:=h5 1 _ rfl
  have g0:(Xs bm' since seen)[0+0]? = some (Value.map (some bm')):=by simp [Xs]
  have g1:(Xs bm' since seen)[0+1]? = some (Value.int .i64 since):=by simp [Xs]
  obtain⟨u0,c0,_,d0⟩:=a0
  obtain⟨u1,c1,_,d1⟩:=a1
  rw[g0]at c0
  rw[g1]at c1
  obtain rfl:=Option.some.inj c0
  obtain rfl:=Option.some.inj c1
  obtain⟨bm2,o2,e1,e2⟩:=d0.map_ hG
  simp only[Option.some.injEq,Prod.mk.injEq]at e1
  obtain⟨rfl,rfl⟩:=e1
  simp only[Value.map.injEq,Option.some.injEq]at e2
  subst e2
  have e3:=d1.int_
  simp only[Value.int.injEq,true_and]at e3
  have hs:since=es.size:=by rw[hK.1.1];omega
  subst hs
  have hsz:sn.length=seen.size:=by
   simp [itA,Xs]at k3
   exact k3
  have hseen:seen=sn.toArray:=by
   apply Array.ext
   ·simpa using hsz.symm
   ·intro i hi1 hi2
    have hi2':i<sn.length:=by simpa using hi2
    obtain⟨u,c,_,d⟩:=h5 (i+2) (.f (.int .i64 (sn[i]'hi2':Nat))) (by simp [itA,List.getElem?_eq_getElem hi2'])
    have g:(Xs bm' es.size seen)[0+(i+2)]? = some (Value.int .i64 (seen[i]:Nat)):=by
     rw[Nat.zero_add]
     simp [Xs,hi1]
    rw[g]at c
    obtain rfl:=Option.some.inj c
    have:=d.int_
    simp only[Value.int.injEq,true_and]at this
    simp only[List.getElem_toArray]
    omega
  subst hseen
  exact⟨r,_,es,mm,Prod.ext h1 h2,hG,k1,hb,hK,hCL,by rw[hK.1.1];exact hlen⟩
theorem bornK {es:Array MapEntry}{clock:Nat}{m:List (ByteArray × Value)}(h:MapK es clock m):(∀ x∈es.toList,x.born<clock)∧(es.toList.map (·.born)).Nodup:=by
 refine⟨fun x hx=> ?_,?_⟩
 ·obtain⟨i,hi⟩:=List.mem_iff_getElem?.1 hx
  rw[Array.getElem?_toList]at hi
  rw[h.2.2 i x hi,h.2.1]
  exact(Array.getElem?_eq_some_iff.1 hi).1
 ·rw[List.Nodup,List.pairwise_map,List.pairwise_iff_getElem]
  intro i j hi hj hij
  have e1:=h.2.2 i _ (Array.getElem?_eq_getElem (by simpa using hi))
  have e2:=h.2.2 j _ (Array.getElem?_eq_getElem (by simpa using hj))
  rw[Array.getElem_toList,Array.getElem_toList,e1,e2]
  omega
theorem ax_nxt {d:Option Nat}{x:Operand}{g:Option (Nat × Bool)}{los:List LO}{it v m ver N:Nat}{sn:List Nat}{L:List (ByteArray × FV)}(hg:gd g env=some true) (hx:evA env x=.ptr it v 0) (hi:H it=(v,some (.ty (itA m ver N sn) itTy))) (hm:H m=(ver,some (.ty (XK L) ZD))) (hN:N=L.length)
  (h0:(∀ i,i<L.length→i∈sn)→Ax P R Λ (.ops los::k) (putE env d (.tup [.f (.bool false)])) H)
  (h1:∀ (i:Nat) (p:ByteArray × FV),L[i]? = some p→i∉sn→Ax P R Λ (.ops los::k) (putE env d (.tup [.f (.bool true),.f (.str p.1),.f p.2])) (upd H it (v,some (.ty (itA m ver N (sn++ [i])) itTy)))):Ax P R Λ (.ops (⟨d,.ext 1 x,g⟩::los)::k) env H:=by
 refine Xl (Q:=fun u H'=>((∀ i,i<L.length→i∈sn)∧u=.tup [.f (.bool false)]∧H'=H)∨∃ (i:Nat) (p:ByteArray × FV),L[i]? = some p∧i∉sn∧u=.tup [.f (.bool true),.f (.str p.1),.f p.2]∧H'=upd H it (v,some (.ty (itA m ver N (sn++ [i])) itTy))) hg (fun c hl G Z w act st he=> ?_) (fun u H' hq=> ?_)
 ·have ho:c.op=.next x false:=by
   rcases Uz hl with⟨h,_⟩|⟨_,h⟩|⟨h,_⟩|⟨h,_⟩
   ·cases h
   ·exact h
   ·cases h
   ·cases h
  obtain⟨r,bm,es,mm,hG,hGm,hr,hb,hK,hCL,hsz⟩:=st.iter hi hm hN
  obtain⟨hold,hnd⟩:=bornK hK
  have hv:=he.eval x
  rw[hx]at hv
  obtain⟨r',o',e1,e2⟩:=hv.ptr_ hG
  simp only[Option.some.injEq,Prod.mk.injEq]at e1
  obtain⟨rfl,rfl⟩:=e1
  intro K X hK2
  unfold Oper.wp
  rcases run_next_at (P:=P) w c.type r bm es.size es.size sn.toArray es es.size hr hb hold (Nat.le_refl _)with⟨hz,hrun⟩|⟨e,hel,w1,hw1,hrun⟩
  ·have:(execOp act.eval c).run P w=.ok (.value (.tuple #[.bool false])) w:=by
    simp [execOp,ho,e2,hrun]
   rw[this,Oper.upon_value]
   refine hK2 _ _ H G Z w (.inl ⟨fun i hil=> ?_,rfl,rfl⟩) st (Step.refl _ _ _) (.tup _ _ rfl fun j a u ha hu=> ?_)
   ·have hes:leftOf es sn.toArray = #[]:=Array.eq_empty_of_size_eq_zero hz
    unfold leftOf at hes
    rw[Array.filter_eq_empty_iff]at hes
    have hlt:i<es.size:=by omega
    have:=hes es[i] (Array.getElem_mem hlt)
    rw[hK.2.2 i _ (Array.getElem?_eq_getElem hlt)]at this
    simpa using this
   ·rcases j with _|j
    ·obtain rfl:=Option.some.inj ha;obtain rfl:=Option.some.inj hu;exact .f (.bool _)
    ·simp at ha
  ·have hle:=mem_left hel
   obtain⟨i,hi2⟩:=List.mem_iff_getElem?.1 hle.1
   rw[Array.getElem?_toList]at hi2
   have hlt:=(Array.getElem?_eq_some_iff.1 hi2).1
   have hbi:=hK.2.2 i e hi2
   obtain⟨p,hp⟩:∃ p,L[i]? = some p:=⟨_,List.getElem?_eq_getElem (by omega)⟩
   obtain⟨q,hq⟩:∃ q,mm[i]? = some q:=⟨_,List.getElem?_eq_getElem (by rw[← hK.1.1];omega)⟩
   obtain⟨c1,c2⟩:=cl_at hCL i p q hp hq
   obtain⟨e',f1,f2,f3⟩:=hK.1.2.2.2 i q hq
   rw[hi2]at f1
   obtain rfl:=Option.some.inj f1
   have hnotin:i∉sn:=by
    have:=hle.2
    rw[hbi]at this
    simpa using this
   have:(execOp act.eval c).run P w=.ok (.value (.tuple #[.bool true,e.key,e.val])) (setBlock w1 r (.mapIter (some bm) es.size (sn.toArray.push e.born) es.size)):=by
    simp [execOp,ho,e2,hrun]
   rw[this,Oper.upon_value]
   have hrlt:=VK hr
   have hwh:w1.heap=w.heap:=by rcases hw1 with rfl|rfl<;>rfl
   have hnew:(setBlock w1 r (.mapIter (some bm) es.size (sn.toArray.push e.born) es.size)).heap[r]? = some (.mapIter (some bm) es.size (sn.toArray.push e.born) es.size):=by
    simp [setBlock,hwh,hrlt]
   have hO:Only r w (setBlock w1 r (.mapIter (some bm) es.size (sn.toArray.push e.born) es.size)):=by
    refine⟨?_,?_,?_,?_,fun b hb1 hne=> ?_,fun arr t fz hh=> ?_⟩
    ·rcases hw1 with rfl|rfl<;>rfl
    ·rcases hw1 with rfl|rfl<;>rfl
    ·rcases hw1 with rfl|rfl<;>rfl
    ·simp [setBlock,hwh]
    ·simp [setBlock,hwh,Array.getElem?_setIfInBounds_ne (Ne.symm hne)]
    ·rw[hr]at hh;cases hh
   obtain⟨s1,s2⟩:=st.change it r hO (v,some (some (r,0))) (v,some (.ty (itA m ver N (sn++ [i])) itTy)) (.inr ⟨0,by rw[hG]⟩) (.inl (by simp [setBlock,hwh,hrlt])) rfl (by rw[hi];exact Nat.le_refl _) (fun _=> .inr (by rw[hG])) (.inr (.inr ⟨0,rfl⟩))
    (fun _ arr e3 fz h=>by rw[hnew]at h;cases h) (fun h=>by cases h) (fun ob hob=>⟨_,rfl,fun hk=>by
      obtain rfl:=Option.some.inj hob
      refine⟨rfl,Xs bm es.size (sn.toArray.push e.born),?_,fun j a ha=> ?_⟩
      ·unfold TyO
       rw[if_neg (by decide),if_pos rfl]
       exact⟨bm,es.size,sn.toArray.push e.born,hnew,rfl,by simp [itA,Xs]⟩
      ·rw[Nat.zero_add]
       rcases j with _|_|j
       ·obtain rfl:=Option.some.inj ha
        refine⟨.map (some bm),by simp [Xs],rfl,?_⟩
        have hmit:m≠it:=fun e=>by
         subst e
         rw[hm]at hi
         simp [ZD,itTy]at hi
        exact .mapLive m ver bm 0 (by rw[QL _ _ _ _ hmit];exact hGm)
       ·obtain rfl:=Option.some.inj ha
        exact⟨.int .i64 es.size,by simp [Xs],rfl,by rw[hN,← hsz];exact .f (.int _ _)⟩
       ·have ha':((sn++ [i]).map fun (i:Nat)=>AV.f (.int .i64 i))[j]? = some a:=by simpa [itA]using ha
        rw[List.getElem?_map]at ha'
        obtain⟨y,hy,rfl⟩:=Option.map_eq_some_iff.1 ha'
        refine⟨.int .i64 y,?_,rfl,.f (.int _ _)⟩
        have:(Xs bm es.size (sn.toArray.push e.born))[j+1+1]? = ((sn++ [i]).map fun (s:Nat)=>Value.int .i64 s)[j]?:=by
         simp [Xs,hbi]
        rw[this,List.getElem?_map,hy];rfl⟩)
   rw[YQ _ _ _ hG]at s1 s2
   refine hK2 _ _ _ G Z _ (.inr ⟨i,p,hp,hnotin,rfl,rfl⟩) s1 s2 (.tup _ _ rfl fun j a u ha hu=> ?_)
   rcases j with _|_|_|j
   ·obtain rfl:=Option.some.inj ha;obtain rfl:=Option.some.inj hu;exact .f (.bool _)
   ·obtain rfl:=Option.some.inj ha;obtain rfl:=Option.some.inj hu
    rw[f2,c1];exact .f (.str _)
   ·obtain rfl:=Option.some.inj ha;obtain rfl:=Option.some.inj hu
    rw[f3];exact c2.keep s2.toKeep
   ·simp at ha
 ·rcases hq with⟨a1,rfl,rfl⟩|⟨i,p,a1,a2,rfl,rfl⟩
  ·exact h0 a1
  ·exact h1 i p a1 a2
theorem ax_ent {d:Option Nat}{x:Operand}{g:Option (Nat × Bool)}{los:List LO}{it v m ver N i:Nat}{sn:List Nat}{L:List (ByteArray × FV)}{p:ByteArray × FV}(hg:gd g env=some true) (hx:evA env x=.ptr it v 0) (hi:H it=(v,some (.ty (itA m ver N (sn++ [i])) itTy))) (hm:H m=(ver,some (.ty (XK L) ZD))) (hN:N=L.length) (hp:L[i]? = some p)
  (h:Ax P R Λ (.ops los::k) (putE env d (.tup [.f (.str p.1),.f p.2])) H):Ax P R Λ (.ops (⟨d,.ext 2 x,g⟩::los)::k) env H:=by
 refine Xl (Q:=fun u H'=>u=.tup [.f (.str p.1),.f p.2]∧H'=H) hg (fun c hl G Z w act st he=> ?_) (fun u H' hq=>by obtain⟨rfl,rfl⟩:=hq;exact h)
 have ho:c.op=.entry x:=by
  rcases Uz hl with⟨h,_⟩|⟨h,_⟩|⟨_,h⟩|⟨h,_⟩
  ·cases h
  ·cases h
  ·exact h
  ·cases h
 obtain⟨r,bm,es,mm,hG,hGm,hr,hb,hK,hCL,hsz⟩:=st.iter hi hm hN
 obtain⟨hold,hnd⟩:=bornK hK
 have hv:=he.eval x
 rw[hx]at hv
 obtain⟨r',o',e1,e2⟩:=hv.ptr_ hG
 simp only[Option.some.injEq,Prod.mk.injEq]at e1
 obtain⟨rfl,rfl⟩:=e1
 have hil:i<es.size:=by have:=(List.getElem?_eq_some_iff.1 hp).1;omega
 obtain⟨q,hq⟩:∃ q,mm[i]? = some q:=⟨_,List.getElem?_eq_getElem (by rw[← hK.1.1];omega)⟩
 obtain⟨c1,c2⟩:=cl_at hCL i p q hp hq
 obtain⟨e,f1,f2,f3⟩:=hK.1.2.2.2 i q hq
 have hbi:=hK.2.2 i e f1
 have hr':w.heap[r]? = some (.mapIter (some bm) es.size (sn.toArray.push e.born) es.size):=by
  rw[hr,hbi]
  simp
 intro K X hK2
 unfold Oper.wp
 have hrun:=run_entry_at (P:=P) w r bm es.size sn.toArray es es.size e hr' hb (Array.mem_toList_iff.2 (Array.mem_of_getElem? f1)) hnd
 have:(execOp act.eval c).run P w=.ok (.value (.tuple #[e.key,e.val])) w:=by
  simp [execOp,ho,e2,hrun]
 rw[this,Oper.upon_value]
 refine hK2 _ _ H G Z w ⟨rfl,rfl⟩ st (Step.refl _ _ _) (.tup _ _ rfl fun j a u ha hu=> ?_)
 rcases j with _|_|j
 ·obtain rfl:=Option.some.inj ha;obtain rfl:=Option.some.inj hu
  rw[f2,c1];exact .f (.str _)
 ·obtain rfl:=Option.some.inj ha;obtain rfl:=Option.some.inj hu
  rw[f3];exact c2
 ·simp at ha
theorem ax_rng {d:Nat}{x:Operand}{g:Option (Nat × Bool)}{los:List LO}{tv m ver:Nat}{L:List (ByteArray × FV)}(hg:gd g env=some true) (hx:evA env x=.map m ver) (hm:H m=(ver,some (.ty (XK L) ZD))) (hd:H d=(tv,none))
  (h:Ax P R Λ (.ops los::k) (putE env (some d) (.ptr d (tv+1) 0)) (upd H d (tv+1,some (.ty (itA m ver L.length []) itTy)))):Ax P R Λ (.ops (⟨some d,.ext 0 x,g⟩::los)::k) env H:=by
 refine Xl (Q:=fun u H'=>u=.ptr d (tv+1) 0∧H'=upd H d (tv+1,some (.ty (itA m ver L.length []) itTy))) hg (fun c hl G Z w act st he=> ?_) (fun u H' hq=>by obtain⟨rfl,rfl⟩:=hq;exact h)
 obtain⟨ty,kt,et,ho,hu⟩:∃ t kt e,c.op=.range t x∧P.underlying t=some (.map kt e):=by
  rcases Uz hl with⟨_,h⟩|⟨h,_⟩|⟨h,_⟩|⟨h,_⟩
  ·exact h
  ·cases h
  ·cases h
  ·cases h
 obtain⟨bm,hG,_,es,clock,mm,hb,hK,hCL⟩:=st.tys (id:=m) (ver:=ver) (cs:=XK L) (by rw[hm];simp [Uh])
 have hck:=hK.2.1
 subst hck
 have hsz:es.size=L.length:=by rw[hK.1.1];exact cl_len hCL
 have hv:=he.eval x
 rw[hx]at hv
 obtain⟨bm',o',e1,e2⟩:=hv.map_ hG
 simp only[Option.some.injEq,Prod.mk.injEq]at e1
 obtain⟨rfl,rfl⟩:=e1
 have hne:m≠d:=fun e=>by subst e;rw[hm]at hd;cases hd
 intro K X hK2
 unfold Oper.wp
 have:(execOp act.eval c).run P w=.ok (.value (.pointer (some ⟨w.heap.size,0,none⟩))) (w.alloc (.mapIter (some bm) es.size #[] es.size)):=by
  simp [execOp,ho,e2,run_range_map (P:=P) w ty kt et bm es es.size hu hb]
 rw[this,Oper.upon_value]
 obtain⟨s1,s2⟩:=st.change d w.heap.size (Only.alloc w (.mapIter (some bm) es.size #[] es.size)) (tv+1,some (some (w.heap.size,0))) (tv+1,some (.ty (itA m ver L.length []) itTy)) (.inl rfl) (.inl (by simp)) rfl (by rw[hd];simp) (fun h=>by rw[hd]at h;simp at h) (.inr (.inr ⟨0,rfl⟩))
  (fun _ arr e fz h=>by rw[heap_alloc_new w (.mapIter (some bm) es.size #[] es.size)]at h;cases h) (fun h=>by cases h) (fun ob hob=>⟨_,rfl,fun hk=>by
    obtain rfl:=Option.some.inj hob
    refine⟨rfl,Xs bm es.size #[],?_,fun j a ha=> ?_⟩
    ·unfold TyO
     rw[if_neg (by decide),if_pos rfl]
     exact⟨bm,es.size,#[],heap_alloc_new w _,rfl,by simp [itA,Xs]⟩
    ·rw[Nat.zero_add]
     rcases j with _|_|j
     ·obtain rfl:=Option.some.inj ha
      exact⟨.map (some bm),by simp [Xs],rfl,.mapLive m ver bm 0 (by rw[QL _ _ _ _ hne];exact hG)⟩
     ·obtain rfl:=Option.some.inj ha
      exact⟨.int .i64 es.size,by simp [Xs],rfl,by rw[← hsz];exact .f (.int _ _)⟩
     ·simp [itA]at ha⟩)
 refine hK2 _ _ _ _ Z _ ⟨rfl,rfl⟩ s1 s2 ?_
 have:=RepA.ptrLive (G:=upd G d (tv+1,some (some (w.heap.size,0)))) (Z:=Z) (w:=w.alloc (.mapIter (some bm) es.size #[] es.size)) d (tv+1) 0 w.heap.size 0 (by simp)
 simpa using this
theorem ax_mlen {d:Option Nat}{x:Operand}{g:Option (Nat × Bool)}{los:List LO}{m ver:Nat}{L:List (ByteArray × FV)}(hg:gd g env=some true) (hx:evA env x=.map m ver) (hm:H m=(ver,some (.ty (XK L) ZD)))
  (h:Ax P R Λ (.ops los::k) (putE env d (.f (.int .i64 L.length))) H):Ax P R Λ (.ops (⟨d,.ext 3 x,g⟩::los)::k) env H:=by
 refine Xl (Q:=fun u H'=>u=.f (.int .i64 L.length)∧H'=H) hg (fun c hl G Z w act st he=> ?_) (fun u H' hq=>by obtain⟨rfl,rfl⟩:=hq;exact h)
 obtain⟨cl,t,kt,e,h1,h2,h3,h4,h5⟩:∃ cl t kt e,c.op=.call cl∧cl.callee=.builtin .len∧cl.args = #[x]∧cl.argTypes = #[t]∧P.underlying t=some (.map kt e):=by
  rcases Uz hl with⟨h,_⟩|⟨h,_⟩|⟨h,_⟩|⟨_,h⟩
  ·cases h
  ·cases h
  ·cases h
  ·exact h
 obtain⟨bm,hG,_,es,clock,mm,hb,hK,hCL⟩:=st.tys (id:=m) (ver:=ver) (cs:=XK L) (by rw[hm];simp [Uh])
 have hsz:es.size=L.length:=by rw[hK.1.1];exact cl_len hCL
 have hv:=he.eval x
 rw[hx]at hv
 obtain⟨bm',o',e1,e2⟩:=hv.map_ hG
 simp only[Option.some.injEq,Prod.mk.injEq]at e1
 obtain⟨rfl,rfl⟩:=e1
 intro K X hK2
 unfold Oper.wp
 have:(execOp act.eval c).run P w=.ok (.value (.int .i64 L.length)) w:=by
  simp [execOp,h1,resolve,h2,h3,h4,invoke,builtin,Builtin.len_,run_underlying h5,e2,goInt,MapKept.run_getObj_map hb,hsz]
 rw[this,Oper.upon_value]
 exact hK2 _ _ H G Z w ⟨rfl,rfl⟩ st (Step.refl _ _ _) (.f (.int _ _))
theorem St.tyMap (st:St P G H Z w){id ver:Nat}(hi:H id=(ver,some (.map []))):St P G (upd H id (ver,some (.ty [] ZD))) Z w:=by
 have hg:∀ i,(upd H id (ver,some (.ty [] ZD)) i).1=(H i).1:=fun i=>by
  by_cases e:i=id
  ·subst e;rw[upd_same,hi]
  ·rw[QL _ _ _ _ e]
 refine⟨fun i=>by rw[hg];exact st.ver i,fun i h=> ?_,fun i ob h=> ?_,st.inj,st.disj,st.zlt,st.glt,st.ones⟩
 ·by_cases e:i=id
  ·subst e;rw[upd_same]at h;cases h
  ·rw[QL _ _ _ _ e]at h;exact st.dead i h
 ·by_cases e:i=id
  ·subst e
   rw[upd_same]at h
   obtain rfl:=Option.some.inj h
   obtain⟨loc,h1,h2⟩:=st.obj i (.map []) (by rw[hi])
   cases loc with
   | none=>exact h2.elim
   | some p=>
    obtain⟨g,o⟩:=p
    obtain⟨rfl,es,clock,h3,h4⟩:=h2
    refine⟨_,h1,rfl,#[],?_,fun j a ha=>by simp at ha⟩
    unfold TyO
    rw[if_pos rfl]
    exact⟨es,clock,[],h3,h4,rfl,rfl⟩
  ·rw[QL _ _ _ _ e]at h;exact st.obj i ob h
theorem Sim.tyMap {s:At0}{a:Act}{id ver:Nat}(hi:H id=(ver,some (.map []))) (hs:Sim P s env H a w):Sim P s env (upd H id (ver,some (.ty [] ZD))) a w:=by
 obtain⟨G,Z,st,h⟩:=hs
 exact⟨G,Z,st.tyMap hi,h⟩
theorem ax_tyMap {los:List LO}{id ver:Nat}(hi:H id=(ver,some (.map []))) (hx:Ax P R Λ (.ops los::k) env (upd H id (ver,some (.ty [] ZD)))):Ax P R Λ (.ops los::k) env H:=fun s ops l t hl hm a w hs=>hx s ops l t hl hm a w (Sim.tyMap hi hs)
end
end Go.Proofs.YtjfchihkhpinmaaGreatDoor
