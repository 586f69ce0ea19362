/-
  Shared objects: calls, what is frozen of them for good, what is made anew. No statement of the seat is proved here; no conditions.
-/
import Derived.Test.YtjfchihkhpinmaaGreatDoorWr4
namespace Go.Proofs.YtjfchihkhpinmaaGreatDoor
open Go.RowKit Go.Shelf
set_option linter.unusedVariables false
set_option linter.unusedSimpArgs false
set_option maxRecDepth 100000

section
variable {P:Program}{R:Env→Heap→Prop}{Λ : Lams}{k:List It}{env:Env}{H:Heap}{d j:Nat}{f:Operand}{args:List Operand}{g:Option (Nat × Bool)}{los:List LO}{dos:List DO}{acc:List Fp}{od:List Nat}{fid:FuncId}{args':List AV}{rs:List RS}{nw:List Nat}{n:Nat}{el:List (Nat × AV)}{hl:List (Nat × Nat × AObj)}
theorem KQ (rd:List Nat) (hF:FRet P fid args' rs) (hs:∀ H2:Heap,(∀ id∈rd,H2 id=H id)→FzAs H2 (args.map (evA env)) args')
  (h:srun P R 300 Λ (.dops dos (j+1) (XQ j rd (wrL d (Qs 0 rs)) acc)::k) (putE env (some d) (QI (putS d 0 rs))) (Qz d 0 rs H)) (hg:gd g env=some true:=by rfl) (hfn:evA env f=.f (.fn (.func fid)):=by rfl) (hp:rs.all (RS.all FV.plain)=true:=by first|rfl|(simp [RS.all,RC.all,FV.plain];done)) (hfree:Free d H:=by first|exact Vx|exact QQ rfl|(repeat (first|exact Vx|exact QQ rfl|exact QQ (by first|(simp;done)|fail)|refine Qa rfl ?_|refine YH ?_));first|done|fail) (hk:VQ acc od rd (wrL d (Qs 0 rs))=true:=by rfl):Ax P R Λ (.dops (⟨some d,.call f args,g,od⟩::dos) j acc::k) env H:=by
 have out:∀ (H:Heap) id,id∉wrL d (Qs 0 rs)→Qz d 0 rs H id=H id:=fun H id hid=>JA fun j _ h2 e=>hid (Wo.2 ⟨j,h2,e⟩)
 refine WY (f:=f) (args:=args) (rd:=rd) (wr:=wrL d (Qs 0 rs)) (v:=QI (putS d 0 rs)) (H':=Qz d 0 rs H) rfl hg (out H) (fun H2 hr hw=> ?_) hk (QP 300 _ _ _ _ h)
 rw[hfn]
 refine ACall.mono (QC8 (t:=d) hF (fun j hj=>by rw[hw _ (Wo.2 ⟨j,hj,rfl⟩)];exact hfree j) (hs H2 hr) hp) fun r H' ⟨h1,h2⟩=>⟨h1,?_⟩
 rw[h2]
 funext id
 unfold mix
 split
 ·rename_i hid;exact Jj (hw id hid)
 ·rename_i hid;exact out H2 id hid
theorem Sim.dropHi {s:At0}{a:Act}{w:World}(hs:Sim P s env H a w) (i v:Nat) (hi:isHi i=true) (hn:env.n=n) (hsm:Small H) (hal:hl.all (fun p=>okId p.1)=true) (hpt:PtEq H (upd (mkH hl) i (v,none))) (he:ElOk H (upd (mkH hl) i (v,none)) [] env n el) (hh:HlOk H (upd (mkH hl) i (v,none)) [] hl):Sim P s (mkE n el) (upd (mkH hl) i (v,none)) a w:=by
 obtain⟨G,Z,st,hr,hd,hi2⟩:=hs
 have hwk:WkOk H (upd (mkH hl) i (v,none)) []:=⟨fun id o' ho=>by
  by_cases e:id=i
  ·subst e;rw[upd_same]at ho;cases ho
  ·rw[QL _ _ _ _ e]at ho
   exact QBF hh id o' ho,fun id hid=>by
  have h1:(H id).1=(upd (mkH hl) i (v,none) id).1:=by
   by_cases e:id≠100001∧id≠100002∧id≠100101∧id≠100102∧id≠100103
   ·have hne:id≠i:=by
     simp only[isHi,decide_eq_true_eq]at hi
     omega
    rw[QL _ _ _ _ hne,hsm id hid e,QG hal id hid e]
   ·obtain⟨p1,p2,p3,p4,p5⟩:=hpt
    have:id=100001∨id=100002∨id=100101∨id=100102∨id=100103:=by omega
    rcases this with rfl|rfl|rfl|rfl|rfl<;>assumption
  exact⟨Nat.le_of_eq h1,fun _ hm=>by cases hm⟩⟩
 obtain⟨s1,s2⟩:=st.weak hwk
 refine⟨_,_,s1,⟨by rw[hr.len,hn];rfl,fun i hi=>(el_ok he i).2 hi,fun i v hv=> ?_⟩,hd,hi2.trans s2⟩
 exact SlotOk.rep st _ _ v (el_ok he i).1 (hr.at_ i v hv)
theorem Sim.conj {s:At0}{a:Act}{w:World}(hs:Sim P s env H a w) (i:Nat) (h0:(H i).2=none):Sim P s env (upd H i ((H i).1+1,some (.cells []))) a w:=by
 obtain⟨G,Z,st,hr,hd,hi⟩:=hs
 have hg0:(G i).2=none:=st.dead i h0
 have hv:(G i).1=(H i).1:=st.ver i
 let G2:QM:=upd G i ((H i).1+1,some none)
 have hloc:∀ id g o,(G2 id).2=some (some (g,o))→id≠i∧(G id).2=some (some (g,o)):=fun id g o h=>by
  by_cases e:id=i
  ·subst e;simp only[G2,upd_same]at h;cases h
  ·simp only[G2,QL _ _ _ _ e]at h;exact⟨e,h⟩
 have hlv:∀ b,Qb G2 b→Qb G b:=fun b ⟨id,o,h⟩=>⟨id,o,(hloc id b o h).2⟩
 have hk:Keep G Z w G2 Z w:=⟨fun b hb=>⟨hb,rfl⟩,fun id=>by
  by_cases e:id=i
  ·subst e;simp only[G2,upd_same];omega
  ·simp only[G2,QL _ _ _ _ e];exact Nat.le_refl _,fun id e=>by
  by_cases e2:id=i
  ·subst e2;simp only[G2,upd_same]at e;omega
  ·simp only[G2,QL _ _ _ _ e2];exact .inr trivial,fun b arr e fz _ h=>⟨arr,e,fz,h,rfl⟩⟩
 refine⟨G2,Z,⟨fun id=> ?_,fun id h=> ?_,fun id o h=> ?_,fun i1 i2 g o1 o2 h1 h2=>st.inj _ _ _ _ _ (hloc _ _ _ h1).2 (hloc _ _ _ h2).2,fun id g o h=>st.disj _ _ _ (hloc _ _ _ h).2,st.zlt,fun id g o h=>st.glt _ _ _ (hloc _ _ _ h).2,fun id g o h=>st.ones _ _ _ (hloc _ _ _ h).2⟩,⟨hr.len,hr.out,fun i v hv=>(hr.at_ i v hv).keep hk⟩,hd,hi.trans ⟨rfl,rfl,rfl,Nat.le_refl _,fun _ _ _=>rfl,fun b hb=>⟨hb,rfl⟩,fun b hb=> .inl hb,fun b hb=> .inl (hlv b hb),fun b arr e fz _ h=>⟨arr,e,fz,h,rfl⟩,fun id _=>hk.ver id,fun id _ e=>hk.same id e⟩⟩
 ·by_cases e:id=i
  ·subst e;simp only[G2,upd_same]
  ·simp only[G2,QL _ _ _ _ e];exact st.ver id
 ·by_cases e:id=i
  ·subst e;rw[upd_same]at h;cases h
  ·rw[QL _ _ _ _ e]at h
   simp only[G2,QL _ _ _ _ e];exact st.dead id h
 ·by_cases e:id=i
  ·subst e
   rw[upd_same]at h
   obtain rfl:=Option.some.inj h
   exact⟨none,by simp only[G2,upd_same],rfl⟩
  ·rw[QL _ _ _ _ e]at h
   obtain⟨loc,h1,h2⟩:=st.obj id o h
   refine⟨loc,by simp only[G2,QL _ _ _ _ e];exact h1,?_⟩
   cases loc with
   | none=>cases o<;>exact h2
   | some q=>
    obtain⟨g,ob⟩:=q
    cases o with
    | cells cs=>
     obtain⟨arr,e,h3,h4⟩:=h2
     exact⟨arr,e,h3,h4.mono fun a v hr=>hr.keep hk⟩
    | ty cs tt=>
     obtain⟨h00,arr,h3,h4⟩:=h2
     exact⟨h00,arr,h3,h4.mono fun a v hr=>hr.keep hk⟩
    | map m=>exact h2
theorem MD (i v:Nat) (he:ElOk H (upd (mkH hl) i (v,none)) [] env n el) (hh:HlOk H (upd (mkH hl) i (v,none)) [] hl)
  (hx:Ax P R Λ (.ops los::k) (mkE n el) (upd (mkH hl) i (v+1,some (.cells [])))) (hi:isHi i=true:=by rfl) (hn:env.n=n:=by rfl) (hsm:Small H:=by first|exact YM|exact QG rfl|(repeat (first|exact YM|exact QG rfl|refine QC rfl ?_|refine QCa rfl rfl ?_));first|done|fail) (hal:hl.all (fun p=>okId p.1)=true:=by rfl) (hpt:PtEq H (upd (mkH hl) i (v,none)):=by exact⟨rfl,rfl,rfl,rfl,rfl⟩):Ax P R Λ (.ops los::k) env H:=fun s ops l' t hl' hm a w hsim=>by
 have h1:=(hsim.dropHi i v hi hn hsm hal hpt he hh).conj i (by rw[upd_same])
 rw[upd_same,upd_upd]at h1
 exact hx s ops l' t hl' hm a w h1
end
theorem FHi.of {P:Program}{f:FuncId}{args:List AV}{hl:List (Nat × Nat × AObj)}{q:AV→List (Nat × Nat × AObj)→Prop}(h:FCall P f args (mkH hl) (fun r H'=>HiQ q r H'∨∃ l,MvOk H' l∧HiQ q (r.turn (mvT H' l)) (mvH H' l))):FHi P f args hl q:=
 ⟨h.1,fun G Z w vs h1 h2 h3=>(h.2 G Z w vs h1 h2 h3).mono fun e w' ⟨v,r,H',G',Z',e1,hq,st,hh,hrep⟩=>by
  rcases hq with hq|⟨l,hl,hq⟩
  ·exact⟨v,r,H',G',Z',e1,hq,st,hh,hrep⟩
  ·obtain⟨st2,hh2⟩:=st.mv hl
   exact⟨v,_,_,_,Z',e1,hq,st2,hh.trans hh2,hrep.turn (Wm st hl)⟩⟩
def aY (z:Bool) (v:Nat):Nat→AV:=if z=true then fun _=> .f .nil else fun n=> .sl 100102 v 1 0 n
def hiR (D:List Ob) (P:List Pt) (t:ByteArray) (z:Bool) (v1 v2 v3 v4:Nat) (zs:List FV):List (Nat × Nat × AObj):=
 [(100001,v1,.cells ([.sl 100002 v2 2 0 D.length,.sl 100101 v3 3 0 P.length]++zs.map .f)),(100002,v2,.cells ((rowF fOb D).map .f)),(100101,v3,.cells (rowA (aY z v4) t P)),(100102,v4,.cells (frY (yOf t P)))]
theorem Ug {P:List Pt}(h:QZ kPt P){p:Pt}(hp:p∈P):yOf p.1 P=p.2.2:=by
 unfold yOf
 cases hf:P.find? (fun q=>decide (q.1=p.1))with
 | none=>exact absurd (decide_eq_true (rfl:p.1=p.1)) (by simpa using List.find?_eq_none.1 hf p hp)
 | some q=>
  have hm:=List.mem_of_find?_eq_some hf
  have hk:q.1=p.1:=by simpa using List.find?_some hf
  obtain⟨i,hi⟩:=List.mem_iff_getElem?.1 hm
  obtain⟨j,hj⟩:=List.mem_iff_getElem?.1 hp
  have:=Yu h hi hj hk
  subst this
  rw[hi]at hj
  obtain rfl:=Option.some.inj hj
  rfl
theorem Kg {H H':Heap}{z:Bool}{v:Nat}{t:ByteArray}{P:List Pt}(hr:QZ kPt P) (hc:cellsOf v (H 100102)=some (frY (yOf t P))) (hd:(H' 100102).2=none) (hz:z=true→yOf t P = []):SlotsOk H H' [] (rowA (aY z v) t P) ((rowF fPt P).map .f):=by
 have key:∀ Q:List Pt,(∀ p∈Q,p∈P)→SlotsOk H H' [] (rowA (aY z v) t Q) ((rowF fPt Q).map .f):=fun Q=>by
  induction Q with
  | nil=>intro _;simp [rowA,rowF,SlotsOk]
  | cons p Q ih=>
   intro hQ
   rw[Vt,Qr,List.map_append]
   refine SlotsOk.app ?_ (ih fun q hq=>hQ q (List.mem_cons_of_mem _ hq))
   unfold fPtA
   by_cases e:p.1=t
   ·rw[if_pos e]
    have hy:=Ug hr (hQ p List.mem_cons_self)
    rw[e]at hy
    refine⟨.inl rfl,.inl rfl,?_,rfl⟩
    unfold aY
    cases z with
    | true=>
     rw[if_pos rfl,← hy,hz rfl]
     exact .inr ⟨rfl,1,rfl⟩
    | false=>
     rw[if_neg (by decide),← hy]
     exact Zx (enc:=encU) (sz:=1) (l:=yOf t P) (fun _=>rfl) hd hc rfl
   ·rw[if_neg e]
    exact⟨.inl rfl,.inl rfl,.inl rfl,rfl⟩
 exact key P fun p hp=>hp
theorem Kr {H:Heap}{z:Bool}{i2 v2 n v3 v4:Nat}{t:ByteArray}{P:List Pt}(hr:QZ kPt P) (hc:cellsOf v4 (H 100102)=some (frY (yOf t P))) (hz:z=true→yOf t P = []) (h3:cellsOf v3 (H 100101)=some (rowA (aY z v4) t P)):FzA H (.agg [.sl i2 v2 2 0 n,.sl 100101 v3 3 0 P.length]) (.agg [.any,.f (Ue P)]):=
 .inr ⟨_,_,rfl,rfl,.inl (.inl (by simp only[SlotOk])),.inr ⟨100101,v3,3,P.length,P.map fPt,_,rfl,rfl,List.length_map _,fun x hx=>by obtain⟨p,_,rfl⟩:=List.mem_map.1 hx;rfl,h3,by rw[Ji];exact Nat.le_refl _,by
  rw[List.take_of_length_le (by rw[Ji];exact Nat.le_refl _)]
  exact Kg hr hc rfl hz⟩,trivial⟩
def fPtN (t:ByteArray) (p:Pt):List FV:=[.str p.1,.int .i64 p.2.1,if p.1=t then .nil else frB p.2.2]
theorem rowN_A {t:ByteArray} : ∀ Q:List Pt,(rowF (fPtN t) Q).map AV.f=rowA (fun _=> .f .nil) t Q
 | []=>rfl
 | p::Q=>by
  rw[Qr,Vt,List.map_append,rowN_A Q]
  congr 1
  unfold fPtA fPtN
  split<;>rfl
theorem QAg {t:ByteArray}{P:List Pt}(h:hasK kPt P t=false):rowF (fPtN t) P=rowF fPt P:=by
 have h1:=VJ.1 h
 induction P with
 | nil=>rfl
 | cons p P ih=>
  rw[Qr,Qr,ih (VJ.2 fun x hx=>h1 x (List.mem_cons_of_mem _ hx)) fun x hx=>h1 x (List.mem_cons_of_mem _ hx)]
  congr 1
  unfold fPtN
  rw[if_neg (show ¬ p.1=t from fun e=>h1 p List.mem_cons_self e)]
  rfl
section
variable (tt:ByteArray)
set_option maxHeartbeats 1000000
theorem QBC (bl:List Pt) (i:Nat) (b:Pt) (hi:i≤bl.length) (hn:bl.length≤1000000) :
  FRetM Tryz.prog 111 [.c (.own 3 bl.length (rowF (fPtN tt) bl)),.c (.v (.int .i64 i)),.c (.own 3 1 ((fPtN tt) b))] []
   [.c (.own 3 (bl.length+1) (rowF (fPtN tt) (bl.take i++b::bl.drop i)))]:=by
 refine FCall.of_ax Vn ?_
 dsimp only[jm,ji,jf,jl,jL,jn,je,jx,jT,jC,jB,jq,jt,ju,jA,km,kf,kl,kn,kx,VF]
 have h48:((bl.length+1)*48≤140737488355328)=True:=by rw[eq_iff_iff,iff_true];omega
 have hrl:(rowF (fPtN tt) bl).length=bl.length*3:=QD (sz:=3) (fun _=>rfl)
 rcases Nat.eq_or_lt_of_le hi with rfl|hlt
 ·have d0:decide ((bl.length:Int)=(bl.length:Int))=true:=dcT rfl
  have g1:((bl.length:Int)≤(bl.length:Int))=True:=by rw[eq_iff_iff,iff_true];exact Int.le_refl _
  have d1:decide (((1:Nat):Int)=0)=false:=by decide
  refine zrs ?_
  simp -implicitDefEqProofs only[d0,d1,g1,h48,hrl,fPtN,zr,Nat.reduceAdd,Nat.reduceSub,Nat.reduceMul,Nat.reduceLT,Nat.reduceLeDiff,Nat.reduceEqDiff,Nat.reduceBEq,reduceIte,reduceCtorEq,Int.reduceLE,Int.reduceLT,Int.reduceToNat,Int.reduceEq,Int.reduceNe]
  have e1:rowF (fPtN tt) (bl.take bl.length++b::bl.drop bl.length)=rowF (fPtN tt) bl++(fPtN tt) b:=by rw[List.take_length,List.drop_length];exact Vy
  rw[e1]
  exact⟨[.sl 80000 2 3 0 (bl.length+1)],rfl,⟨.inr ⟨80000,2,rfl,by rw[List.map_append];rfl,by rw[List.length_append,hrl];simp [fPtN];omega⟩,rfl⟩,by simp [idsS]⟩
 ·have d0:decide ((i:Int)=(bl.length:Int))=false:=dcF (by omega)
  have g1:((i:Int)≤(bl.length:Int))=True:=by rw[eq_iff_iff,iff_true];omega
  have d1:decide (((1:Nat):Int)=0)=false:=by decide
  have g2:((bl.length:Int)≤(bl.length:Int))=True:=by rw[eq_iff_iff,iff_true];omega
  refine QP 37 _ _ _ _ ?_
  simp -implicitDefEqProofs only[d0,d1,g1,g2,zr,Nat.reduceAdd,Nat.reduceSub,Nat.reduceMul,Nat.reduceLT,Nat.reduceLeDiff,Nat.reduceEqDiff,Nat.reduceBEq,reduceIte,reduceCtorEq,Int.reduceLE,Int.reduceLT,Int.reduceToNat,Int.reduceEq,Int.reduceNe]
  refine ax_slc trivial 0 rfl (by omega) rfl fun c hc1 hc2=> ?_
  have hw:IntKind.i64.wrap ((bl.length:Int)+((1:Nat):Int))=((bl.length+1:Nat):Int):=by rw[QR]<;>omega
  refine zrs ?_
  simp -implicitDefEqProofs only[hw,zr,Nat.reduceAdd,Nat.reduceSub,Nat.reduceMul,Nat.reduceLT,Nat.reduceLeDiff,Nat.reduceEqDiff,Nat.reduceBEq,reduceIte,reduceCtorEq,Int.reduceLE,Int.reduceLT,Int.reduceToNat,Int.reduceEq,Int.reduceNe]
  refine ax_capC rfl rfl ?_
  rcases Nat.lt_or_ge c (bl.length+1)with hgc|hgc
  ·have dc:decide (c<bl.length+1)=true:=decide_eq_true hgc
   have hw2:IntKind.i64.wrap (((bl.length+1:Nat):Int) - (i:Int))=((bl.length+1 - i:Nat):Int):=by rw[QR]<;>omega
   have hw3:IntKind.i64.wrap ((i:Int)+((1:Nat):Int))=((i+1:Nat):Int):=by rw[QR]<;>omega
   have e0:i+(bl.length+1 - i)=bl.length+1:=by omega
   refine QP 7 _ _ _ _ ?_
   simp -implicitDefEqProofs only[dc,zr,Nat.reduceAdd,Nat.reduceSub,Nat.reduceMul,Nat.reduceLT,Nat.reduceLeDiff,Nat.reduceEqDiff,Nat.reduceBEq,reduceIte,reduceCtorEq,Int.reduceLE,Int.reduceLT,Int.reduceToNat,Int.reduceEq,Int.reduceNe]
   refine QBh 0 i rfl (Nat.zero_le _) (by omega) rfl ⟨_,rfl⟩ ?_
   rw[if_pos (show 0<c by omega)]
   simp only[Nat.zero_add,Nat.sub_zero]
   refine QP 5 _ _ _ _ ?_
   simp -implicitDefEqProofs only[hw,hw2,zr,Nat.reduceAdd,Nat.reduceSub,Nat.reduceMul,Nat.reduceLT,Nat.reduceLeDiff,Nat.reduceEqDiff,Nat.reduceBEq,reduceIte,reduceCtorEq,Int.reduceLE,Int.reduceLT,Int.reduceToNat,Int.reduceEq,Int.reduceNe]
   refine ax_appN (n:=i) (m:=bl.length+1 - i) 40 0 rfl rfl rfl (by omega) (by omega) (by rw[List.length_map,hrl];omega) (by omega) rfl ?_
   rw[e0]
   refine QCI trivial 0 rfl ?_
   simp only[Nat.zero_mul,List.drop_zero]
   have g3:((i:Int)≤((bl.length+1:Nat):Int))=True:=by rw[eq_iff_iff,iff_true];omega
   have g4:(((bl.length+1:Nat):Int)≤((bl.length+1:Nat):Int))=True:=by rw[eq_iff_iff,iff_true];omega
   have g5:(((i+1:Nat):Int)≤((bl.length+1:Nat):Int))=True:=by rw[eq_iff_iff,iff_true];omega
   have m1:min 1 (bl.length+1 - i)=1:=by omega
   have m2:min (bl.length - i) (bl.length+1 - (i+1))=bl.length - i:=by omega
   have hzl:(Qd (bl.length+1 - i) [FV.str ⟨#[]⟩,FV.int .i64 0,FV.nil]).length=(bl.length+1 - i)*3:=by
    rw[Qd,List.length_map,Qn (sz:=3) _ (fun y hy=>by rw[List.eq_of_mem_replicate hy];rfl),List.length_replicate]
   obtain⟨Zs,hZ⟩:∃ Zs,Qd (bl.length+1 - i) [FV.str ⟨#[]⟩,FV.int .i64 0,FV.nil]=Zs:=⟨_,rfl⟩
   rw[hZ]at hzl ⊢
   rw[← List.map_take,Jg (sz:=3) (fun _=>rfl)]
   have hAl:(rowF (fPtN tt) (bl.take i)).length=i*3:=by rw[QD (sz:=3) (fun _=>rfl),List.length_take];congr 1;omega
   have e1:splice ((rowF (fPtN tt) (bl.take i)).map AV.f++Zs) (i*3) (((fPtN tt) b).map AV.f)=(rowF (fPtN tt) (bl.take i)++(fPtN tt) b).map AV.f++Zs.drop 3:=row_in1 (sz:=3) (fun _=>rfl) bl b hi Zs (by omega)
   have e2:splice ((rowF (fPtN tt) (bl.take i)++(fPtN tt) b).map AV.f++Zs.drop 3) ((i+1)*3) ((((rowF (fPtN tt) bl).map AV.f).drop (i*3)).take ((bl.length - i)*3))=(rowF (fPtN tt) (bl.take i++b::bl.drop i)).map AV.f:=row_in2 (sz:=3) (fun _=>rfl) bl b hi _ (by rw[List.length_drop,hzl];omega)
   have c1:((i+1)*3≤((rowF (fPtN tt) (bl.take i)).map AV.f++Zs).length)=True:=by
    rw[eq_iff_iff,iff_true,List.length_append,List.length_map,hAl,hzl];omega
   have c2:((i+1+(bl.length - i))*3≤((rowF (fPtN tt) (bl.take i)++(fPtN tt) b).map AV.f++Zs.drop 3).length)=True:=by
    rw[eq_iff_iff,iff_true,List.length_append,List.length_map,List.length_append,hAl,List.length_drop,hzl];simp [fPtN];omega
   have c3:((i+(bl.length - i))*3≤bl.length*3)=True:=by rw[eq_iff_iff,iff_true];omega
   have c4:(((fPtN tt) b).map AV.f).take 3=((fPtN tt) b).map AV.f:=rfl
   have c5:((fPtN tt) b).length=3:=rfl
   refine zrs ?_
   simp -implicitDefEqProofs only[hw3,g1,g2,g3,g4,g5,m1,m2,e1,e2,c1,c2,c3,c4,c5,hrl,Nat.one_mul,List.drop_zero,List.length_map,zr,Nat.reduceAdd,Nat.reduceSub,Nat.reduceMul,Nat.reduceLT,Nat.reduceLeDiff,Nat.reduceEqDiff,Nat.reduceBEq,reduceIte,reduceCtorEq,Int.reduceLE,Int.reduceLT,Int.reduceToNat,Int.reduceEq,Int.reduceNe]
   have hfl:(rowF (fPtN tt) (bl.take i++b::bl.drop i)).length=(bl.length+1)*3:=by rw[QD (sz:=3) (fun _=>rfl)];simp;omega
   exact⟨[.sl 40 1 3 0 (bl.length+1)],rfl,⟨.inr ⟨40,1,rfl,rfl,by rw[hfl];exact Nat.le_refl _⟩,rfl⟩,by simp [idsS]⟩
  ·have dc:decide (c<bl.length+1)=false:=decide_eq_false (by omega)
   refine QP 10 _ _ _ _ ?_
   simp -implicitDefEqProofs only[dc,hw,zr,Nat.reduceAdd,Nat.reduceSub,Nat.reduceMul,Nat.reduceLT,Nat.reduceLeDiff,Nat.reduceEqDiff,Nat.reduceBEq,reduceIte,reduceCtorEq,Int.reduceLE,Int.reduceLT,Int.reduceToNat,Int.reduceEq,Int.reduceNe]
   refine QBh 0 (bl.length+1) rfl (Nat.zero_le _) hgc rfl ⟨_,rfl⟩ ?_
   rw[if_pos (show 0<c by omega)]
   simp only[Nat.zero_add,Nat.sub_zero]
   refine ax_wide trivial 60 ((bl.length+1)*3) rfl rfl (by omega) ?_
   refine QCI trivial 60 rfl ?_
   rw[List.length_map,hrl,show(bl.length+1)*3 - bl.length*3=3 by omega]
   obtain⟨Y,hY⟩:∃ Y,List.replicate 3 AV.any=Y:=⟨_,rfl⟩
   have hYl:Y.length=3:=by rw[← hY];rfl
   rw[hY]
   have hw3:IntKind.i64.wrap ((i:Int)+((1:Nat):Int))=((i+1:Nat):Int):=by rw[QR]<;>omega
   have g3:((i:Int)≤((bl.length+1:Nat):Int))=True:=by rw[eq_iff_iff,iff_true];omega
   have g4:(((bl.length+1:Nat):Int)≤((bl.length+1:Nat):Int))=True:=by rw[eq_iff_iff,iff_true];omega
   have g5:(((i+1:Nat):Int)≤((bl.length+1:Nat):Int))=True:=by rw[eq_iff_iff,iff_true];omega
   refine zrs ?_
   simp -implicitDefEqProofs only[hw3,g1,g2,g3,g4,g5,zr,Nat.reduceAdd,Nat.reduceSub,Nat.reduceMul,Nat.reduceLT,Nat.reduceLeDiff,Nat.reduceEqDiff,Nat.reduceBEq,reduceIte,reduceCtorEq,Int.reduceLE,Int.reduceLT,Int.reduceToNat,Int.reduceEq,Int.reduceNe]
   obtain⟨_,_,_,_,_,k1,k2,k3,k4,k5,k6,k7⟩:=ovP
   refine QDE k1 k2 k3 k4 k5 k6 k7 (.inl rfl) (.inl rfl) (by decide) (by omega) (by omega) (by omega) ?_
   obtain⟨X,hX⟩:∃ X,((((rowF (fPtN tt) bl).map AV.f++Y).drop (i*3)).take 3)=X:=⟨_,rfl⟩
   have hXl:X.length=3:=by rw[← hX,List.length_take,List.length_drop,List.length_append,List.length_map,hrl,hYl];omega
   have e1:=row_up (enc:=(fPtN tt)) (sz:=3) (fun _=>rfl) bl hi Y hYl
   rw[hX]at e1
   have e2:=row_in3 (enc:=(fPtN tt)) (sz:=3) (fun _=>rfl) bl b hi X hXl
   have hAl:(rowF (fPtN tt) (bl.take i)).length=i*3:=by rw[QD (sz:=3) (fun _=>rfl),List.length_take];congr 1;omega
   have hDl:(rowF (fPtN tt) (bl.drop i)).length=(bl.length - i)*3:=by rw[QD (sz:=3) (fun _=>rfl),List.length_drop]
   have m1:min 1 (bl.length+1 - i)=1:=by omega
   have m2:min (bl.length+1 - i) (bl.length+1 - (i+1))=bl.length - i:=by omega
   have c1:((i+1+(bl.length - i))*3≤((rowF (fPtN tt) bl).map AV.f++Y).length)=True:=by
    rw[eq_iff_iff,iff_true,List.length_append,List.length_map,hrl,hYl];omega
   have c2:((i+(bl.length - i))*3≤((rowF (fPtN tt) bl).map AV.f++Y).length)=True:=by
    rw[eq_iff_iff,iff_true,List.length_append,List.length_map,hrl,hYl];omega
   have c3:((i+1)*3≤((rowF (fPtN tt) (bl.take i)).map AV.f++(X++(rowF (fPtN tt) (bl.drop i)).map AV.f)).length)=True:=by
    rw[eq_iff_iff,iff_true,List.length_append,List.length_append,List.length_map,List.length_map,hAl,hDl,hXl];omega
   have c4:(((fPtN tt) b).map AV.f).take 3=((fPtN tt) b).map AV.f:=rfl
   have c5:((fPtN tt) b).length=3:=rfl
   refine zrs ?_
   simp -implicitDefEqProofs only[hw3,g1,g2,g3,g4,g5,m1,m2,e1,e2,c1,c2,c3,c4,c5,Nat.one_mul,List.drop_zero,List.length_map,zr,Nat.reduceAdd,Nat.reduceSub,Nat.reduceMul,Nat.reduceLT,Nat.reduceLeDiff,Nat.reduceEqDiff,Nat.reduceBEq,reduceIte,reduceCtorEq,Int.reduceLE,Int.reduceLT,Int.reduceToNat,Int.reduceEq,Int.reduceNe]
   have hfl:(rowF (fPtN tt) (bl.take i++b::bl.drop i)).length=(bl.length+1)*3:=by rw[QD (sz:=3) (fun _=>rfl)];simp;omega
   exact⟨[.sl 80000 1 3 0 (bl.length+1)],rfl,⟨.inr ⟨80000,1,rfl,rfl,by rw[hfl];exact Nat.le_refl _⟩,rfl⟩,by simp [idsS]⟩
end
end Go.Proofs.YtjfchihkhpinmaaGreatDoor
