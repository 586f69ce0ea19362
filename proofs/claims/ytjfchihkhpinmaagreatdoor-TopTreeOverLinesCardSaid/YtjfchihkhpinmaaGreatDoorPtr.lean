/-
  A contract with own results, also within structs, read as one with frozen results. No statement of the seat is proved here; no conditions.
-/
import Derived.Test.YtjfchihkhpinmaaGreatDoorRun
import Derived.Test.YtjfchihkhpinmaaGreatDoorEngV
namespace Go.Proofs.YtjfchihkhpinmaaGreatDoor
open Go.RowKit
set_option linter.unusedVariables false
set_option linter.unusedSimpArgs false

def RcF:RC→FV→Prop
 | .v x,y=>y=x
 | .own sz n cs,y=>∃ rows:List (List FV),y=.fr sz rows∧rows.length=n∧(∀ r∈rows,r.length=sz)∧cs.take (n*sz)=rows.flatten
def RsF:List RS→List FV→Prop
 | [],l=>l = []
 | .c r::rs,l=>(match l with
  | y::l=>RcF r y∧RsF rs l
  | []=>False)
 | .agg _::_,_=>False
def offH (H:Heap):Heap:=fun id=>((H id).1,none)
theorem OP {H:Heap} : ∀ {r:RC}{a:AV}{y:FV},RcOk H r a→RcF r y→SlotOk H (offH H) [] a (.f y)
 | .v x,a,y,h,h2=>by
  obtain rfl:a=.f x:=h
  obtain rfl:y=x:=h2
  rw[so_ff];exact .inl rfl
 | .own sz n cs,a,y,h,⟨rows,h2,h3,h4,h5⟩=>by
  subst h2
  rcases h with⟨rfl,rfl,rfl⟩|⟨id,ver,rfl,h6,h7⟩
  ·obtain rfl:rows = []:=List.eq_nil_of_length_eq_zero h3
   rw[so_ff];exact .inr ⟨rfl,sz,rfl⟩
  ·refine⟨rfl,h3,h4,rfl,_,h6,?_,?_⟩
   ·rw[List.length_map,Nat.zero_add];exact h7
   ·rw[Nat.zero_mul,List.drop_zero,← List.map_take,h5]
theorem QAe {H:Heap} : ∀ {rs:List RS}{l:List AV}{ys:List FV},RsOk H rs l→RsF rs ys→SlotsOk H (offH H) [] l (ys.map .f)
 | [],l,ys,h,h2=>by
  obtain rfl:l = []:=h
  obtain rfl:ys = []:=h2
  exact rfl
 | .c r::rs,[],ys,h,h2=>h.elim
 | .c r::rs,a::l,[],h,h2=>h2.elim
 | .c r::rs,a::l,y::ys,h,h2=>⟨OP h.1 h2.1,QAe h.2 h2.2⟩
 | .agg _::_,l,ys,h,h2=>h2.elim
theorem rsOk_v {H:Heap} : ∀ ys:List FV,RsOk H (ys.map fun y=> .c (.v y)) (ys.map .f)
 | []=>rfl
 | y::ys=>⟨rfl,rsOk_v ys⟩
theorem idsS_f:∀ ys:List FV,idsS (ys.map .f) = []
 | []=>by simp [idsS]
 | y::ys=>by simp [idsS,idsS_f ys]
theorem FRet.frz {P:Program}{f:FuncId}{args:List AV}{rs:List RS}(h:FRet P f args rs){ys:List FV}(hf:RsF rs ys):FRet P f args (ys.map fun y=> .c (.v y)):=
 ⟨h.1,fun G Z w vs h1 h2 h3=>(h.2 G Z w vs h1 h2 h3).mono fun e w' ⟨v,r,H',G',Z',e1,⟨l,hr,hrs,hnd⟩,st,hh,hrep⟩=>by
  have hk:WkOk H' (offH H') []:=⟨(fun id o' h=>by cases h),fun id _=>⟨Nat.le_refl _,fun _=>by simp⟩⟩
  obtain⟨st2,hh2⟩:=st.weak hk
  have hs:=QAe hrs hf
  refine⟨v,QI (ys.map .f),offH H',_,_,e1,⟨_,rfl,rsOk_v ys,by rw[idsS_f];exact List.nodup_nil⟩,st2,hh.trans hh2,?_⟩
  subst hr
  have gen:∀ us:Array Value,us.size=l.length→(∀ (j:Nat) (a:AV) (u:Value),l[j]? = some a→us[j]? = some u→RepA G' Z' w' a u)→(ys.map AV.f).length=l.length∧∀ (j:Nat) (a:AV) (u:Value),(ys.map AV.f)[j]? = some a→us[j]? = some u→RepA _ _ w' a u:=fun us hul hus=>by
   obtain⟨g1,g2⟩:=SlotsOk.rep st l _ us.toList hs (by simpa using hul) fun j x u hx hu=>hus j x u hx (by simpa using hu)
   exact⟨g1,fun j a u ha hu=>g2 j a u ha (by simpa using hu)⟩
  cases l with
  | nil=>
   obtain⟨us,rfl,g1,g3⟩:=RepA.tup_ hrep
   obtain⟨k1,k2⟩:=gen us g1 g3
   cases ys with
   | nil=>exact .tup _ us (by simpa using g1) k2
   | cons y ys=>simp at k1
  | cons a l=>
   cases l with
   | nil=>
    cases ys with
    | nil=>exact hs.elim
    | cons y ys=>
     cases ys with
     | nil=>exact SlotOk.rep st a _ v hs.1 hrep
     | cons y' ys=>have:=hs.2;simp [SlotsOk]at this
   | cons b l=>
    obtain⟨us,rfl,g1,g3⟩:=RepA.tup_ hrep
    obtain⟨k1,k2⟩:=gen us g1 g3
    cases ys with
    | nil=>simp at k1
    | cons y ys=>
     cases ys with
     | nil=>simp at k1
     | cons y' ys=>exact .tup _ us (by rw[g1,← k1];rfl) k2⟩
theorem Qe {t:Nat} : ∀ {k:Nat}(l:List FV),Vk t k (l.map RC.v)=l.map .f
 | _,[]=>rfl
 | k,x::l=>congrArg (AV.f x::·) (Qe (k:=k) l)
theorem QX {t:Nat} : ∀ {k:Nat}{H:Heap}(l:List FV),XN t k (l.map RC.v) H=H
 | _,_,[]=>rfl
 | k,H,x::l=>QX (k:=k) (H:=H) l
theorem ZT:∀ {k:Nat}(l:List FV),Qo k (l.map RC.v)=k
 | _,[]=>rfl
 | k,x::l=>ZT (k:=k) l
theorem QU {H:Heap} : ∀ l:List FV,YD H (l.map RC.v) (l.map .f)
 | []=>rfl
 | x::l=>⟨rfl,QU l⟩
theorem QB:∀ l:List FV,idsC (l.map .f) = []
 | []=>by simp [idsC]
 | x::l=>by simp [idsC,QB l]
def RcFz:RC→RC→Prop
 | r,.v y=>RcF r y
 | _,.own ..=>False
def QDw:List RC→List RC→Prop
 | [],[]=>True
 | r::l,r'::l'=>RcFz r r'∧QDw l l'
 | _,_=>False
def RsFz:List RS→List RS→Prop
 | [],[]=>True
 | .c r::l,.c r'::l'=>RcFz r r'∧RsFz l l'
 | .agg a::l,.agg a'::l'=>QDw a a'∧RsFz l l'
 | _,_=>False
theorem UQ {H:Heap} : ∀ {rs rs':List RC}{l:List AV}{k:Nat},YD H rs l→QDw rs rs'→SlotsOk H (offH H) [] l (Vk 0 k rs')∧Qo k rs'=k
 | [],[],l,k,h,_=>by
  obtain rfl:l = []:=h
  exact⟨rfl,rfl⟩
 | [],_::_,l,k,h,h2=>h2.elim
 | r::rs,[],l,k,h,h2=>h2.elim
 | r::rs,.own ..::rs',l,k,h,h2=>h2.1.elim
 | r::rs,.v y::rs',[],k,h,h2=>h.elim
 | r::rs,.v y::rs',a::l,k,h,h2=>by
  obtain⟨h3,h4⟩:=UQ (k:=k) h.2 h2.2
  exact⟨⟨OP h.1 h2.1,h3⟩,h4⟩
theorem Wf {H:Heap} : ∀ {rs rs':List RS}{l:List AV}{k:Nat},RsOk H rs l→RsFz rs rs'→SlotsOk H (offH H) [] l (putS 0 k rs')
 | [],[],l,k,h,_=>by
  obtain rfl:l = []:=h
  exact rfl
 | [],.c _::_,l,k,h,h2=>h2.elim
 | [],.agg _::_,l,k,h,h2=>h2.elim
 | .c r::rs,[],l,k,h,h2=>h2.elim
 | .c r::rs,.agg _::_,l,k,h,h2=>h2.elim
 | .c r::rs,.c (.own ..)::rs',l,k,h,h2=>h2.1.elim
 | .c r::rs,.c (.v y)::rs',[],k,h,h2=>h.elim
 | .c r::rs,.c (.v y)::rs',a::l,k,h,h2=>⟨OP h.1 h2.1,Wf (k:=k) h.2 h2.2⟩
 | .agg r::rs,[],l,k,h,h2=>h2.elim
 | .agg r::rs,.c _::_,l,k,h,h2=>h2.elim
 | .agg r::rs,.agg r'::rs',l,k,h,h2=>by
  have⟨cs,l',e,hr1,hr2⟩:∃ cs l',l=.agg cs::l'∧YD H r cs∧RsOk H rs l':=by
   cases l with
   | nil=>exact h.elim
   | cons a l=>
    cases a<;>try exact h.elim
    exact⟨_,_,rfl,h.1,h.2⟩
  subst e
  obtain⟨h3,h4⟩:=UQ (k:=k) hr1 h2.1
  have h5:=Wf (k:=k) hr2 h2.2
  refine⟨?_,?_⟩
  ·show SlotOk H (offH H) [] (.agg cs) (.agg (Vk 0 k r'))
   rw[SlotOk];exact h3
  ·show SlotsOk H (offH H) [] l' (putS 0 (Qo k r') rs')
   rw[h4];exact h5
theorem NJ:∀ {rs rs':List RC},QDw rs rs'→Yx rs'=true
 | [],[],_=>rfl
 | [],_::_,h=>h.elim
 | _::_,[],h=>h.elim
 | _::_,.own ..::_,h=>h.1.elim
 | _::rs,.v _::rs',h=>by simp only[Yx];exact NJ h.2
theorem Wg:∀ {rs rs':List RS},RsFz rs rs'→VZ rs'=true
 | [],[],_=>rfl
 | [],.c _::_,h=>h.elim
 | [],.agg _::_,h=>h.elim
 | .c _::_,[],h=>h.elim
 | .agg _::_,[],h=>h.elim
 | .c _::_,.agg _::_,h=>h.elim
 | .agg _::_,.c _::_,h=>h.elim
 | .c _::_,.c (.own ..)::_,h=>h.1.elim
 | .c _::_,.c (.v _)::_,h=>by simp only[VZ];exact Wg h.2
 | .agg _::_,.agg _::_,h=>by simp only[VZ,Bool.and_eq_true];exact⟨NJ h.1,Wg h.2⟩
theorem FRet.frz2 {P:Program}{f:FuncId}{args:List AV}{rs rs':List RS}(h:FRet P f args rs) (hf:RsFz rs rs'):FRet P f args rs':=
 ⟨h.1,fun G Z w vs h1 h2 h3=>(h.2 G Z w vs h1 h2 h3).mono fun e w' ⟨v,r,H',G',Z',e1,⟨l,hr,hrs,hnd⟩,st,hh,hrep⟩=>by
  have hk:WkOk H' (offH H') []:=⟨(fun id o' h=>by cases h),fun id _=>⟨Nat.le_refl _,fun _=>by simp⟩⟩
  obtain⟨st2,hh2⟩:=st.weak hk
  have hs:=Wf (k:=0) hrs hf
  obtain⟨p1,p2⟩:=OA (t:=0) (H:=offH H') (k:=0) (Wg hf)
  generalize hys:putS 0 0 rs'=ys at hs p1 p2
  refine⟨v,QI ys,offH H',_,_,e1,⟨_,rfl,p1,by rw[p2];exact List.nodup_nil⟩,st2,hh.trans hh2,?_⟩
  subst hr
  have gen:∀ us:Array Value,us.size=l.length→(∀ (j:Nat) (a:AV) (u:Value),l[j]? = some a→us[j]? = some u→RepA G' Z' w' a u)→ys.length=l.length∧∀ (j:Nat) (a:AV) (u:Value),ys[j]? = some a→us[j]? = some u→RepA _ _ w' a u:=fun us hul hus=>by
   obtain⟨g1,g2⟩:=SlotsOk.rep st l _ us.toList hs (by simpa using hul) fun j x u hx hu=>hus j x u hx (by simpa using hu)
   exact⟨g1,fun j a u ha hu=>g2 j a u ha (by simpa using hu)⟩
  cases l with
  | nil=>
   obtain⟨us,rfl,g1,g3⟩:=RepA.tup_ hrep
   obtain⟨k1,k2⟩:=gen us g1 g3
   cases ys with
   | nil=>exact .tup _ us (by simpa using g1) k2
   | cons y ys=>simp at k1
  | cons a l=>
   cases l with
   | nil=>
    cases ys with
    | nil=>exact hs.elim
    | cons y ys=>
     cases ys with
     | nil=>exact SlotOk.rep st a _ v hs.1 hrep
     | cons y' ys=>have:=hs.2;simp [SlotsOk]at this
   | cons b l=>
    obtain⟨us,rfl,g1,g3⟩:=RepA.tup_ hrep
    obtain⟨k1,k2⟩:=gen us g1 g3
    cases ys with
    | nil=>simp at k1
    | cons y ys=>
     cases ys with
     | nil=>simp at k1
     | cons y' ys=>exact .tup _ us (by rw[g1,← k1]) k2⟩
theorem rcF_row {α : Type}{enc : α→List FV}{sz:Nat}{l:List α}{t:List FV}(hs:∀ x,(enc x).length=sz):RcF (.own sz l.length (rowF enc l++t)) (.fr sz (l.map enc)):=
 ⟨l.map enc,rfl,List.length_map _,fun r hr=>by obtain⟨y,_,rfl⟩:=List.mem_map.1 hr;exact hs y,by
  rw[List.take_append_of_le_length (by rw[QD hs];exact Nat.le_refl _),List.take_of_length_le (by rw[QD hs];exact Nat.le_refl _)];rfl⟩
theorem QCg {α : Type}{enc : α→List FV}{sz:Nat}{l:List α}(hs:∀ x,(enc x).length=sz):RcF (.own sz l.length (rowF enc l)) (.fr sz (l.map enc)):=by
 have:=rcF_row (t:=[]) (l:=l) hs
 rwa [List.append_nil]at this
theorem ObjR.cut {P:Program}{G:QM}{Z:Nat→Prop}{w:World}{loc:Option (Nat × Nat)}{cs ds:List AV}(h:ObjR P G Z w loc (.cells (cs++ds))):ObjR P G Z w loc (.cells cs):=by
 cases loc with
 | none=>
  have h:cs++ds = []:=h
  show cs = []
  exact(List.append_eq_nil_iff.1 h).1
 | some p=>
  obtain⟨g,o⟩:=p
  obtain⟨arr,e,h1,h2⟩:=h
  refine⟨arr,e,h1,fun j a hj=>h2 j a ?_⟩
  rw[List.getElem?_append_left (List.getElem?_eq_some_iff.1 hj).1];exact hj
theorem Sim.cut {P:Program}{s:At0}{env:Env}{H:Heap}{a:Act}{w:World}{id v:Nat}{cs ds:List AV}(hH:H id=(v,some (.cells (cs++ds)))) (h:Sim P s env H a w):Sim P s env (upd H id (v,some (.cells cs))) a w:=by
 obtain⟨G,Z,st,hr,hd,hi⟩:=h
 refine⟨G,Z,⟨fun j=> ?_,fun j hj=> ?_,fun j o hj=> ?_,st.inj,st.disj,st.zlt,st.glt,st.ones⟩,hr,hd,hi⟩
 ·by_cases e:j=id
  ·subst e;rw[upd_same,st.ver j,hH]
  ·rw[QL (H:=H) (h:=e)];exact st.ver j
 ·by_cases e:j=id
  ·subst e;rw[upd_same]at hj;cases hj
  ·rw[QL (H:=H) (h:=e)]at hj;exact st.dead j hj
 ·by_cases e:j=id
  ·subst e
   rw[upd_same]at hj
   obtain⟨loc,h1,h2⟩:=st.obj j (.cells (cs++ds)) (by rw[hH])
   cases hj
   exact⟨loc,h1,h2.cut⟩
  ·rw[QL (H:=H) (h:=e)]at hj;exact st.obj j o hj
end Go.Proofs.YtjfchihkhpinmaaGreatDoor
namespace Go.Proofs.YtjfchihkhpinmaaGreatDoor
open Go.RowKit
set_option linter.unusedVariables false
set_option linter.unusedSimpArgs false

def FzOkT (H Ht:Heap) (a b:AV):Prop:=SlotOk H Ht [] a b∨∃ (id ver off:Nat) (l:List FV) (cs:List AV),a=.ptr id ver off∧b=.f (.fp l)∧(Ht id).2=none∧cellsOf ver (H id)=some cs∧off+l.length≤cs.length∧SlotsOk H Ht [] ((cs.drop off).take l.length) (l.map .f)
def FzOk (H:Heap) (a b:AV):Prop:=FzOkT H H0 a b
def FzsOk (H:Heap):List AV→List AV→Prop
 | [],[]=>True
 | a::l,b::l'=>FzOk H a b∧FzsOk H l l'
 | _,_=>False
section
variable {P:Program}{G:QM}{H Ht:Heap}{Z:Nat→Prop}{w:World}
theorem FzOkT.rep (st:St P G H Z w){a b:AV}{v:Value}(h:FzOkT H Ht a b) (hr:RepA G Z w a v):RepA (wkG G Ht []) (wkZ G Ht [] Z) w b v:=by
 rcases h with h|⟨id,ver,off,l,cs,rfl,rfl,hd,hc,hin,hs⟩
 ·exact SlotOk.rep st a b v h hr
 ·obtain⟨loc,hG,hob,hH⟩:=st.cells hc
  obtain⟨g,o,rfl,rfl⟩:=hr.ptr_ hG
  obtain⟨arr,e,hh,hcc⟩:=hob
  have hlen:((cs.drop off).take l.length).length=l.length:=by rw[List.length_take,List.length_drop];omega
  have hat:∀ j,j<l.length→∃ a u,((cs.drop off).take l.length)[j]? = some a∧w.cell? ⟨g,o+off+j,none⟩=some u∧u.oneCell'=true∧RepA G Z w a u:=fun j hj=>by
   have h1:((cs.drop off).take l.length)[j]? = some (((cs.drop off).take l.length)[j]'(by omega)):=List.getElem?_eq_getElem _
   have h2:=h1
   rw[List.getElem?_take_of_lt hj,List.getElem?_drop]at h2
   obtain⟨u,h3,h4,h5⟩:=hcc _ _ h2
   exact⟨_,u,h1,by rw[Nat.add_assoc,cell_of_row w g _ arr e (0,0) hh];exact h3,h4,h5⟩
  obtain⟨g1,g2⟩:=SlotsOk.rep st _ _ ((List.range l.length).map fun j=>(w.cell? ⟨g,o+off+j,none⟩).getD undef) hs (by rw[List.length_map,List.length_range,hlen]) (fun j x u hx hu=>by
   rw[List.getElem?_map]at hu
   obtain⟨k,hk,rfl⟩:=Option.map_eq_some_iff.1 hu
   rw[List.getElem?_range (by rw[← hlen];exact(List.getElem?_eq_some_iff.1 hx).1)]at hk
   obtain rfl:=Option.some.inj hk
   obtain⟨a,u,k1,k2,k3,k4⟩:=hat j (by rw[← hlen];exact(List.getElem?_eq_some_iff.1 hx).1)
   rw[hx]at k1
   obtain rfl:=Option.some.inj k1
   simp only[k2,Option.getD_some];exact k4)
  refine .f (.fp l g (o+off) (fun j=>(w.cell? ⟨g,o+off+j,none⟩).getD undef) (.inr ⟨id,o,by rw[hG],.inl hd⟩) (fun j hj=> ?_) fun j a hj=> ?_)
  ·obtain⟨a,u,k1,k2,k3,k4⟩:=hat j hj
   simp only[k2,Option.getD_some];exact⟨trivial,k3⟩
  ·have hjl:=(List.getElem?_eq_some_iff.1 hj).1
   have:=g2 j (.f a) _ (by rw[List.getElem?_map,hj];rfl) (by rw[List.getElem?_map,List.getElem?_range hjl];rfl)
   exact this.f_
theorem FzsOk.rep (st:St P G H Z w):∀ {l l':List AV}{us:List Value},FzsOk H l l'→us.length=l.length→(∀ (j:Nat) (x:AV) (u:Value),l[j]? = some x→us[j]? = some u→RepA G Z w x u)→
  l'.length=l.length∧∀ (j:Nat) (x:AV) (u:Value),l'[j]? = some x→us[j]? = some u→RepA (wkG G H0 []) (wkZ G H0 [] Z) w x u
 | [],[],us,_,_,_=>⟨rfl,fun j x u h=>by simp at h⟩
 | [],_::_,us,h,_,_=>h.elim
 | _::_,[],us,h,_,_=>h.elim
 | a::l,b::l',[],_,hl,_=>by simp at hl
 | a::l,b::l',u::us,h,hl,hr=>by
  obtain⟨g1,g2⟩:=FzsOk.rep st h.2 (us:=us) (by simpa using hl) (fun j x u hx hu=>hr (j+1) x u (by simpa using hx) (by simpa using hu))
  refine⟨by simp [g1],fun j x u' hx hu=> ?_⟩
  cases j with
  | zero=>
   simp only[List.getElem?_cons_zero,Option.some.injEq]at hx hu
   subst hx hu
   exact FzOkT.rep st h.1 (hr 0 a u rfl rfl)
  | succ j=>exact g2 j x u' (by simpa using hx) (by simpa using hu)
theorem call_fz {t:Nat}{f:FuncId}{args args':List AV}{rs:List RS}(hF:FRet P f args' rs) (hfree:∀ j,j<Qs 0 rs→H (t+1000*j)=(0,none)) (hs:FzsOk H args args') (hp:rs.all (RS.all FV.plain)=true):ACall P f args H (fun r H'=>r=QI (putS t 0 rs)∧H'=Qz t 0 rs H):=
 WV hF (fun G Z=>wkZ G H0 [] Z) FV.plain hp hfree
  (fun G Z w vs st hsz hrep=>by
    obtain⟨g1,g2⟩:=hs.rep st (us:=vs.toList) (by rw[Array.length_toList];exact hsz) (fun j x u hx hu=>hrep j x u hx (by simpa using hu))
    refine⟨by omega,fun j a v ha hv=> ?_⟩
    have:=g2 j a v ha (by simpa using hv)
    have e:wkG G H0 []=fun _=>(0,none):=by funext id;simp [wkG,H0]
    rw[e]at this;exact this)
  (fun G Z w st=>⟨fun b h=> .inl h,fun b h=>h.imp (fun h=>h) fun ⟨id,o,h,_⟩=>⟨id,o,h⟩⟩)
  (fun G Z Z1 w w1 x v st hz hx h=>h.plain hx)
end
theorem fz_f {H:Heap}{x:FV} : FzOk H (.f x) (.f x):= .inl (.inl rfl)
theorem fz_so {H:Heap}{a b:AV}(h:SlotOk H H0 [] a b):FzOk H a b:= .inl h
def FRetN (P:Program) (f:FuncId) (args:List AV) (pcs:List RC):Prop:=
 FCall P f args H0 (fun r H'=>∃ id ver cs,r=.ptr id ver 0∧cellsOf ver (H' id)=some cs∧YD H' pcs cs∧(idsC cs).Nodup∧id∉idsC cs)
theorem FRetN.frz {P:Program}{f:FuncId}{args:List AV}{pcs ys:List RC}(h:FRetN P f args pcs){l:List FV}(hy:ys=l.map RC.v) (hf:QDw pcs ys):FRet P f args [.c (.v (.fp l))]:=
 ⟨h.1,fun G Z w vs h1 h2 h3=>(h.2 G Z w vs h1 h2 h3).mono fun e w' ⟨v,r,H',G',Z',e1,⟨id,ver,cs,hr,hc,hrs,hnd,hni⟩,st,hh,hrep⟩=>by
  have hk:WkOk H' (offH H') []:=⟨(fun id o' h=>by cases h),fun id _=>⟨Nat.le_refl _,fun _=>by simp⟩⟩
  obtain⟨st2,hh2⟩:=st.weak hk
  subst hr hy
  obtain⟨hs,-⟩:=UQ (k:=0) hrs hf
  rw[Qe]at hs
  have hlen:cs.length=l.length:=by
   obtain⟨loc,hG,hob,hH⟩:=st.cells hc
   have:∀ (rs:List RC) (cs:List AV),YD H' rs cs→cs.length=rs.length:=fun rs=>by
    induction rs with
    | nil=>intro cs h;have:cs = []:=h;rw[this];rfl
    | cons r rs ih=>
     intro cs h
     cases cs with
     | nil=>exact h.elim
     | cons a cs=>simp [ih cs h.2]
   have h5:∀ (rs ys:List RC),QDw rs ys→ys.length=rs.length:=fun rs=>by
    induction rs with
    | nil=>intro ys h;cases ys with
     | nil=>rfl
     | cons y ys=>exact h.elim
    | cons r rs ih=>intro ys h;cases ys with
     | nil=>exact h.elim
     | cons y ys=>simp [ih ys h.2]
   rw[this _ _ hrs,← h5 _ _ hf,List.length_map]
  have hz:FzOkT H' (offH H') (.ptr id ver 0) (.f (.fp l)):= .inr ⟨id,ver,0,l,cs,rfl,rfl,rfl,hc,by omega,by rw[List.drop_zero,← hlen,List.take_length];exact hs⟩
  exact⟨v,.f (.fp l),offH H',_,_,e1,⟨[_],rfl,⟨rfl,rfl⟩,List.nodup_nil⟩,st2,hh.trans hh2,hz.rep st hrep⟩⟩
theorem SlotsOk.app {H H':Heap}{nw:List Nat} : ∀ {l l' m m':List AV},SlotsOk H H' nw l l'→SlotsOk H H' nw m m'→SlotsOk H H' nw (l++m) (l'++m')
 | [],l',m,m',h,h2=>by
  have:l' = []:=by simpa [SlotsOk]using h
  rw[this];exact h2
 | a::l,[],m,m',h,h2=>by simp [SlotsOk]at h
 | a::l,b::l',m,m',h,h2=>by
  simp only[SlotsOk]at h
  simp only[List.cons_append,SlotsOk]
  exact⟨h.1,SlotsOk.app h.2 h2⟩

theorem rcOk_at {H H2:Heap}{r:RC}{a:AV}(h:RcOk H r a) (he:∀ id∈idsC [a],H2 id=H id):RcOk H2 r a:=by
 cases r with
 | v x=>exact h
 | own sz n cs=>
  rcases h with h|⟨id,ver,rfl,hc,hl⟩
  ·exact .inl h
  ·exact .inr ⟨id,ver,rfl,by rw[he id (by simp [idsC])];exact hc,hl⟩
theorem ON {H H2:Heap} : ∀ {rs:List RC}{l:List AV},YD H rs l→(∀ id∈idsC l,H2 id=H id)→YD H2 rs l
 | [],l,h,_=>h
 | r::rs,[],h,_=>h.elim
 | r::rs,a::l,h,he=>by
  have hsplit:idsC (a::l)=idsC [a]++idsC l:=by cases a<;>rfl
  rw[hsplit]at he
  exact⟨rcOk_at h.1 fun id hid=>he id (List.mem_append_left _ hid),ON h.2 fun id hid=>he id (List.mem_append_right _ hid)⟩
theorem OI {H H2:Heap} : ∀ {rs:List RS}{l:List AV},RsOk H rs l→(∀ id∈idsS l,H2 id=H id)→RsOk H2 rs l
 | [],l,h,_=>h
 | .c r::rs,[],h,_=>h.elim
 | .c r::rs,a::l,h,he=>by
  have hna:∀ cs,a≠ .agg cs:=by
   rintro cs rfl
   cases r with
   | v x=>cases h.1
   | own sz n cs=>rcases h.1 with⟨h,_⟩|⟨_,_,h,_⟩<;>cases h
  have hsplit:idsS (a::l)=idsC [a]++idsS l:=by cases a<;>first|rfl|exact absurd rfl (hna _)
  rw[hsplit]at he
  exact⟨rcOk_at h.1 fun id hid=>he id (List.mem_append_left _ hid),OI h.2 fun id hid=>he id (List.mem_append_right _ hid)⟩
 | .agg rc::rs,l,h,he=>by
  have⟨cs,l',e,hr1,hr2⟩:∃ cs l',l=.agg cs::l'∧YD H rc cs∧RsOk H rs l':=by
   cases l with
   | nil=>exact h.elim
   | cons a l=>
    cases a<;>try exact h.elim
    exact⟨_,_,rfl,h.1,h.2⟩
  subst e
  have hsplit:idsS (.agg cs::l')=idsC cs++idsS l':=rfl
  rw[hsplit]at he
  exact⟨ON hr1 fun id hid=>he id (List.mem_append_left _ hid),OI hr2 fun id hid=>he id (List.mem_append_right _ hid)⟩
section
variable {P:Program}{R:Env→Heap→Prop}{Λ : Lams}{k:List It}{env:Env}{H:Heap}{d j:Nat}{f:Operand}{args:List Operand}{g:Option (Nat × Bool)}{los:List LO}{dos:List DO}{acc:List Fp}{od:List Nat}{fid:FuncId}{args' tl:List AV}{ri rs:List RS}{pcs pcs':List RC}
theorem callG (hg:gd g env=some true) (hF:FRet P fid args' rs) (hfn:evA env f=.f (.fn (.func fid))) (hs:FzsOk H (args.map (evA env)) args') (hp:rs.all (RS.all FV.plain)=true) (hfree:Free d H)
  (h:srun P R 300 Λ (.ops los::k) (putE env (some d) (QI (putS d 0 rs))) (Qz d 0 rs H)):Ax P R Λ (.ops (⟨some d,.call f args,g⟩::los)::k) env H:=
 Ys (f:=f) (args:=args) rfl hg (Q:=fun r H'=>r=QI (putS d 0 rs)∧H'=Qz d 0 rs H) (by rw[hfn];exact call_fz (t:=d) hF (fun j _=>hfree j) hs hp) fun v H' hq=>by obtain⟨h1,h2⟩:=hq;subst h1 h2;exact QP 300 _ _ _ _ h
end
end Go.Proofs.YtjfchihkhpinmaaGreatDoor
