/-
  Calls that share objects with their caller, as rules of a walk; calls whose own rows are frozen for them with the rows that lie in them. No statement of the seat is proved here; no conditions.
-/
import Derived.Test.YtjfchihkhpinmaaGreatDoorHi
namespace Go.Proofs.YtjfchihkhpinmaaGreatDoor
open Go.RowKit
set_option linter.unusedVariables false
set_option linter.unusedSimpArgs false

theorem SlotsOk.at_ {H H':Heap}{nw:List Nat} : ∀ {l l':List AV},SlotsOk H H' nw l l'→∀ {j:Nat}{b:AV},l'[j]? = some b→∃ a,l[j]? = some a∧SlotOk H H' nw a b
 | [],l',h,j,b,hb=>by
  simp only[SlotsOk]at h
  subst h
  simp at hb
 | a::l,l',h,j,b,hb=>by
  simp only[SlotsOk]at h
  cases l' with
  | nil=>exact h.elim
  | cons b' l'=>
   simp only at h
   cases j with
   | zero=>
    simp only[List.getElem?_cons_zero,Option.some.injEq]at hb
    subst hb
    exact⟨a,rfl,h.1⟩
   | succ j=>
    obtain⟨a',g1,g2⟩:=SlotsOk.at_ h.2 (j:=j) (by simpa using hb)
    exact⟨a',by simpa using g1,g2⟩
def FzR (H:Heap) (a b:AV):Prop:=FzOk H a b∨∃ id ver sz n l cs,a=.sl id ver sz 0 n∧b=.f (.fr sz l)∧l.length=n∧(∀ x∈l,x.length=sz)∧cellsOf ver (H id)=some cs∧n*sz≤cs.length∧SlotsOk H H0 [] (cs.take (n*sz)) (l.flatten.map .f)
def FzRs (H:Heap):List AV→List AV→Prop
 | [],[]=>True
 | a::l,b::l'=>FzR H a b∧FzRs H l l'
 | _,_=>False
def FzA (H:Heap) (a b:AV):Prop:=FzR H a b∨∃ l l',a=.agg l∧b=.agg l'∧FzRs H l l'
def FzAs (H:Heap):List AV→List AV→Prop
 | [],[]=>True
 | a::l,b::l'=>FzA H a b∧FzAs H l l'
 | _,_=>False
section
variable {P:Program}{G:QM}{H:Heap}{Z:Nat→Prop}{w:World}
theorem FzR.rep (st:St P G H Z w){a b:AV}{v:Value}(h:FzR H a b) (hr:RepA G Z w a v):RepA (wkG G H0 []) (wkZ G H0 [] Z) w b v:=by
 rcases h with h|⟨id,ver,sz,n,l,cs,rfl,rfl,rfl,hlen,hc,hin,hs⟩
 ·exact FzOkT.rep st h hr
 ·obtain⟨loc,hG,hob,hH⟩:=st.cells hc
  have hfl:=Qn l hlen
  rcases hr.sl_ hG with⟨h0,A,rfl⟩|⟨g,o,c,rfl,rfl,h3,h4,h5⟩
  ·have:l = []:=List.eq_nil_of_length_eq_zero h0
   subst this
   exact .f (.frNil _ _ _ (by unfold maxLen;omega))
  ·rcases Nat.eq_zero_or_pos l.length with h0|h0
   ·have:l = []:=List.eq_nil_of_length_eq_zero h0
    subst this
    exact .f (.frNil _ _ _ h4)
   ·obtain⟨arr,e,hh,hcc⟩:=hob
    have hz:wkZ G H0 [] Z g:= .inr ⟨id,o,by rw[hG],.inl rfl⟩
    have hx:∀ (j:Nat) x,l.flatten[j]? = some x→∃ u,w.cell? ⟨g,o+0*sz+j,none⟩=some u∧u.oneCell'=true∧RepF (wkZ G H0 [] Z) w x u:=fun j x hx=>by
     obtain⟨a,h1,h2⟩:=hs.at_ (j:=j) (b:= .f x) (by rw[List.getElem?_map,hx];rfl)
     have hj:=(List.getElem?_eq_some_iff.1 hx).1
     rw[hfl]at hj
     rw[List.getElem?_take_of_lt hj]at h1
     obtain⟨u,k2,k3,k4⟩:=hcc _ _ h1
     exact⟨u,by rw[Nat.zero_mul,Nat.add_zero,cell_of_row w g _ arr e (0,0) hh];exact k2,k3,(SlotOk.rep st _ _ u h2 k4).f_⟩
    obtain⟨us,hus⟩:∃ us:Nat→Value,∀ j x,l.flatten[j]? = some x→w.cell? ⟨g,o+0*sz+j,none⟩=some (us j)∧(us j).oneCell'=true∧RepF (wkZ G H0 [] Z) w x (us j):=by
     refine⟨fun j=>(w.cell? ⟨g,o+0*sz+j,none⟩).getD undef,fun j x hj=> ?_⟩
     obtain⟨u,h6,h7,h8⟩:=hx j x hj
     simp only[h6,Option.getD_some]
     exact⟨trivial,h7,h8⟩
    have hget:∀ k j,k<l.length→j<sz→∃ x,l.flatten[k*sz+j]? = some x:=fun k j hk hj=>by
     refine⟨_,List.getElem?_eq_getElem ?_⟩
     rw[hfl]
     have:(k+1)*sz≤l.length*sz:=Nat.mul_le_mul_right _ hk
     rw[Nat.add_mul]at this;omega
    refine .f (.fr sz l g (o+0*sz) c (fun k j=>us (k*sz+j)) h0 h3 h4 hz hlen (fun k j hk hj=> ?_) fun k j x a hk hj=> ?_)
    ·obtain⟨x,hx'⟩:=hget k j hk hj
     obtain⟨h6,h7,_⟩:=hus _ x hx'
     exact⟨by rw[Nat.add_assoc];exact h6,h7⟩
    ·have hjl:j<sz:=by
      rw[← hlen x (List.mem_of_getElem? hk)];exact(List.getElem?_eq_some_iff.1 hj).1
     have hkl:=(List.getElem?_eq_some_iff.1 hk).1
     have:l.flatten[k*sz+j]? = some a:=by
      obtain⟨y,hy⟩:=hget k j hkl hjl
      obtain⟨k',j',x',g1,g2,g3,g4⟩:=YB l hlen _ y hy
      have hk':k'=k:=by
       have h1:(k*sz+j) / sz=k:=by rw[Nat.mul_comm,Nat.mul_add_div (by omega),Nat.div_eq_of_lt hjl,Nat.add_zero]
       have h2:(k'*sz+j') / sz=k':=by rw[Nat.mul_comm,Nat.mul_add_div (by omega),Nat.div_eq_of_lt g4,Nat.add_zero]
       rw[← h1,← h2,g3]
      subst hk'
      have hj':j'=j:=by omega
      subst hj'
      rw[hk]at g1;obtain rfl:=Option.some.inj g1
      rw[hj]at g2;obtain rfl:=Option.some.inj g2
      exact hy
     exact(hus _ a this).2.2
theorem FzRs.at_:∀ {l l':List AV},FzRs H l l'→l'.length=l.length∧∀ (j:Nat) a b,l[j]? = some a→l'[j]? = some b→FzR H a b
 | [],[],_=>⟨rfl,fun j a b h=>by simp at h⟩
 | [],_::_,h=>h.elim
 | _::_,[],h=>h.elim
 | a::l,b::l',h=>by
  obtain⟨g1,g2⟩:=FzRs.at_ h.2
  refine⟨by simp [g1],fun j x y hx hy=> ?_⟩
  cases j with
  | zero=>obtain rfl:=Option.some.inj hx;obtain rfl:=Option.some.inj hy;exact h.1
  | succ j=>exact g2 j x y (by simpa using hx) (by simpa using hy)
theorem FzA.rep (st:St P G H Z w){a b:AV}{v:Value}(h:FzA H a b) (hr:RepA G Z w a v):RepA (wkG G H0 []) (wkZ G H0 [] Z) w b v:=by
 rcases h with h|⟨l,l',rfl,rfl,h⟩
 ·exact h.rep st hr
 ·obtain⟨us,rfl,h1,h2,h3⟩:=hr.agg_
  obtain⟨g1,g2⟩:=h.at_
  refine .agg _ us (by rw[g1];exact h1) h2 fun j b u hb hu=> ?_
  have hj:=(List.getElem?_eq_some_iff.1 hb).1
  obtain⟨a,ha⟩:∃ a,l[j]? = some a:=⟨l[j]'(by omega),List.getElem?_eq_getElem _⟩
  exact(g2 j a b ha hb).rep st (h3 j a u ha hu)
theorem FzAs.rep (st:St P G H Z w):∀ {l l':List AV}{us:List Value},FzAs H l l'→us.length=l.length→(∀ (j:Nat) (x:AV) (u:Value),l[j]? = some x→us[j]? = some u→RepA G Z w x u)→
  l'.length=l.length∧∀ (j:Nat) (x:AV) (u:Value),l'[j]? = some x→us[j]? = some u→RepA (wkG G H0 []) (wkZ G H0 [] Z) w x u
 | [],[],us,_,_,_=>⟨rfl,fun j x u h=>by simp at h⟩
 | [],_::_,us,h,_,_=>h.elim
 | _::_,[],us,h,_,_=>h.elim
 | a::l,b::l',[],_,hl,_=>by simp at hl
 | a::l,b::l',u::us,h,hl,hr=>by
  obtain⟨g1,g2⟩:=FzAs.rep st h.2 (us:=us) (by simpa using hl) (fun j x u hx hu=>hr (j+1) x u (by simpa using hx) (by simpa using hu))
  refine⟨by simp [g1],fun j x u' hx hu=> ?_⟩
  cases j with
  | zero=>
   simp only[List.getElem?_cons_zero,Option.some.injEq]at hx hu
   subst hx hu
   exact FzA.rep st h.1 (hr 0 a u rfl rfl)
  | succ j=>exact g2 j x u' (by simpa using hx) (by simpa using hu)
theorem QC8 {t:Nat}{f:FuncId}{args args':List AV}{rs:List RS}(hF:FRet P f args' rs) (hfree:∀ j,j<Qs 0 rs→H (t+1000*j)=(0,none)) (hs:FzAs H args args') (hp:rs.all (RS.all FV.plain)=true):ACall P f args H (fun r H'=>r=QI (putS t 0 rs)∧H'=Qz t 0 rs H):=
 WV hF (fun G Z=>wkZ G H0 [] Z) FV.plain hp hfree
  (fun G Z w vs st hsz hrep=>by
    obtain⟨g1,g2⟩:=hs.rep st (us:=vs.toList) (by rw[Array.length_toList];exact hsz) (fun j x u hx hu=>hrep j x u hx (by simpa using hu))
    refine⟨by omega,fun j a v ha hv=> ?_⟩
    have:=g2 j a v ha (by simpa using hv)
    have e:wkG G H0 []=fun _=>(0,none):=by funext id;simp [wkG,H0]
    rw[e]at this;exact this)
  (fun G Z w st=>⟨fun b h=> .inl h,fun b h=>h.imp (fun h=>h) fun ⟨id,o,h,_⟩=>⟨id,o,h⟩⟩)
  (fun G Z Z1 w w1 x v st hz hx h=>h.plain hx)
end
section
variable {P:Program}{R:Env→Heap→Prop}{Λ : Lams}{k:List It}{env:Env}{H:Heap}{d:Nat}{f:Operand}{args:List Operand}{g:Option (Nat × Bool)}{los:List LO}{fid:FuncId}{args':List AV}{rs:List RS}
theorem callA (hg:gd g env=some true) (hF:FRet P fid args' rs) (hfn:evA env f=.f (.fn (.func fid))) (hs:FzAs H (args.map (evA env)) args') (hp:rs.all (RS.all FV.plain)=true) (hfree:Free d H)
  (h:srun P R 300 Λ (.ops los::k) (putE env (some d) (QI (putS d 0 rs))) (Qz d 0 rs H)):Ax P R Λ (.ops (⟨some d,.call f args,g⟩::los)::k) env H:=
 Ys (f:=f) (args:=args) rfl hg (Q:=fun r H'=>r=QI (putS d 0 rs)∧H'=Qz d 0 rs H) (by rw[hfn];exact QC8 (t:=d) hF (fun j _=>hfree j) hs hp) fun v H' hq=>by obtain⟨h1,h2⟩:=hq;subst h1 h2;exact QP 300 _ _ _ _ h
def HiQ (q:AV→List (Nat × Nat × AObj)→Prop) (r:AV) (H':Heap):Prop:=∃ hl,q r hl∧hiP H'=mkH hl
def FHi (P:Program) (f:FuncId) (args:List AV) (hl:List (Nat × Nat × AObj)) (q:AV→List (Nat × Nat × AObj)→Prop):Prop:=FCall P f args (mkH hl) (HiQ q)
theorem QBG {H:Heap}{id:Nat}(h:100000≤id):hiP H id=H id:=if_neg (by omega)
theorem mix_hiP {H' H:Heap} : mixH (hiP H') H=mixH H' H:=by
 funext id
 unfold mixH hiP
 by_cases e:id<100000
 ·rw[if_pos e,if_pos e]
 ·rw[if_neg e,if_neg e,if_neg e]
def JX (hl:List (Nat × Nat × AObj)):Bool:=hl.all fun p=>match p.2.2 with
 | .cells cs=>cs.all AV.hi
 | .ty cs _=>cs.all AV.hi
 | _=>true
theorem Nb:∀ {hl:List (Nat × Nat × AObj)}{id:Nat}{o:AObj},(VP id hl).2=some o→∃ p∈hl,p.1=id∧p.2.2=o
 | [],id,o,h=>by cases h
 | (i,v,x)::hl,id,o,h=>by
  unfold VP at h
  split at h
  ·rename_i e
   refine⟨_,List.mem_cons_self,?_,?_⟩
   ·first|exact e.symm|exact e|simpa using e
   ·simpa using h
  ·obtain⟨p,hp,h1⟩:=Nb h
   exact⟨p,List.mem_cons_of_mem _ hp,h1⟩
theorem hiC_mk {H:Heap}{hl:List (Nat × Nat × AObj)}(h:hiP H=mkH hl) (ho:JX hl=true):HiC H:=fun id hid cs hc=>by
 rw[← QBG (H:=H) hid,h]at hc
 rcases hc with hc|⟨t,hc⟩
 all_goals
  obtain⟨p,hp,_,h2⟩:=Nb hc
  have:=List.all_eq_true.1 ho p hp
  rw[h2]at this
  exact this
theorem KP {hl:List (Nat × Nat × AObj)}{q:AV→List (Nat × Nat × AObj)→Prop}(hg:gd g env=some true) (hF:FHi P fid args' hl q) (hfn:evA env f=.f (.fn (.func fid))) (ha:args.map (evA env)=args') (hH:hiP H=mkH hl) (hq:∀ r hl',q r hl'→r.hi=true∧JX hl'=true) (ho:JX hl=true) (hp:args'.all AV.hi=true)
  (h:∀ r hl',q r hl'→Ax P R Λ (.ops los::k) (putE env (some d) r) (mixH (mkH hl') H)):Ax P R Λ (.ops (⟨some d,.call f args,g⟩::los)::k) env H:=
 Ys (f:=f) (args:=args) rfl hg (Q:=fun r H''=>∃ H',HiQ q r H'∧H''=mixH H' H) (by
  rw[hfn,ha]
  exact call_hi hF hH (fun r H' ⟨hl',h1,h2⟩=>⟨(hq r hl' h1).1,hiC_mk h2 (hq r hl' h1).2⟩) (hiC_mk hH ho) hp) fun v H' hQ=>by
   obtain⟨H1,⟨hl',h1,h2⟩,rfl⟩:=hQ
   rw[← mix_hiP,h2]
   exact h v hl' h1
def mvE (H:Heap) (l:Mv) (env:Env):Env:=⟨env.n,fun t=>(env.f t).turn (mvT H l)⟩
theorem Sim.mv {P:Program}{s:At0}{env:Env}{H:Heap}{a:Act}{w:World}(hs:Sim P s env H a w){l:Mv}(hl:MvOk H l):Sim P s (mvE H l env) (mvH H l) a w:=by
 obtain⟨G,Z,st,hr,hd,hi⟩:=hs
 obtain⟨s1,s2⟩:=st.mv hl
 refine⟨_,Z,s1,⟨hr.len,fun i hi=> ?_,fun i v hv=>(hr.at_ i v hv).turn (Wm st hl)⟩,hd,hi.trans s2⟩
 show(env.f i).turn _=_
 rw[hr.out i hi];rfl
theorem ax_mv {P:Program}{env:Env}{H:Heap}{R:Env→Heap→Prop}{Λ : Lams}{los:List LO}{k:List It}(l:Mv){nw:List Nat}{n:Nat}{el:List (Nat × AV)}{hl:List (Nat × Nat × AObj)}(hs:MvOk H l) (h:Wk (mvE H l env) (mvH H l) nw n el hl) (hx:Ax P R Λ (.ops los::k) (mkE n el) (mkH hl)):Ax P R Λ (.ops los::k) env H:=fun s ops l' t hl' hm a w hsim=>hx s ops l' t hl' hm a w (h.sim (hsim.mv hs))
end
def isHi (i:Nat):Bool:=decide (i=100001∨i=100002∨i=100101∨i=100102∨i=100103)
theorem Oo:∀ {hl:List (Nat × Nat × AObj)},hl.all (fun p=>isHi p.1)=true→∀ {id:Nat},isHi id=false→VP id hl=(0,none)
 | [],_,id,_=>rfl
 | (i,v,x)::hl,h,id,hid=>by
  simp only[List.all_cons,Bool.and_eq_true]at h
  rw[lookH_cons,if_neg (fun e=>by rw[← e]at h;rw[h.1]at hid;cases hid)]
  exact Oo h.2 hid
theorem Ov {H:Heap}{hl:List (Nat × Nat × AObj)}(h:hiP H=mkH hl){id:Nat}(hid:100000≤id):H id=VP id hl:=by rw[← QBG (H:=H) hid,h];rfl
theorem Jx {H:Heap}{hl:List (Nat × Nat × AObj)}(hs:Small H) (hk:hl.all (fun p=>isHi p.1)=true) (h1:H 100001=VP 100001 hl) (h2:H 100002=VP 100002 hl) (h3:H 100101=VP 100101 hl) (h4:H 100102=VP 100102 hl) (h5:H 100103=VP 100103 hl):hiP H=mkH hl:=by
 funext id
 rw[mkH_at]
 by_cases e:id<100000
 ·rw[Oo hk (by simp only[isHi,decide_eq_false_iff_not];omega)]
  exact if_pos e
 ·rw[QBG (by omega)]
  by_cases e2:id=100001∨id=100002∨id=100101∨id=100102∨id=100103
  ·rcases e2 with rfl|rfl|rfl|rfl|rfl<;>assumption
  ·rw[Oo hk (by simp only[isHi,decide_eq_false_iff_not];exact e2)]
   exact hs id (by omega) (by omega)
theorem ZQ {H:Heap}{l:Mv}(h:Small H) (hl:l.all (fun e=>okId e.2.1)=true):Small (mvH H l):=fun id hid hne=>by
 unfold mvH
 split
 ·rename_i e he
  have h1:=List.all_eq_true.1 hl e (List.mem_of_find?_eq_some he)
  have h2:e.2.1=id:=by simpa using List.find?_some he
  simp only[okId,decide_eq_true_eq]at h1
  omega
 ·split
  ·rw[h id hid hne]
  ·rw[h id hid hne];rfl
theorem XG {A B:Heap}{id:Nat} : mixH A B id=if id<100000 then B id else A id:=rfl
theorem VE {A B:Heap}(h:Small A):Small (mixH A B):=fun id h1 h2=>(if_neg (by omega)).trans (h id h1 h2)
end Go.Proofs.YtjfchihkhpinmaaGreatDoor
