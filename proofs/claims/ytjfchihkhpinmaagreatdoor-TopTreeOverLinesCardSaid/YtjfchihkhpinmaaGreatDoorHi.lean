/-
  Calls that share objects with their caller: numbers from 100000 on are the same on both sides. No statement of the seat is proved here; no conditions.
-/
import Derived.Test.YtjfchihkhpinmaaGreatDoorPtr
namespace Go.Proofs.YtjfchihkhpinmaaGreatDoor
open Go.RowKit
set_option linter.unusedVariables false
set_option linter.unusedSimpArgs false

mutual
def AV.hi:AV→Bool
 | .any=>true
 | .f _=>true
 | .sl id _ _ _ _=>decide (100000≤id)
 | .ptr id _ _=>decide (100000≤id)
 | .map id _=>decide (100000≤id)
 | .agg l=>AV.hiL l
 | .tup l=>AV.hiL l
 | .clo _ l=>AV.hiL l
 | .slc id _ _ _ _ _=>decide (100000≤id)
def AV.hiL:List AV→Bool
 | []=>true
 | a::l=>a.hi&&AV.hiL l
end
theorem AV.hiL_all:∀ l:List AV,AV.hiL l=l.all AV.hi
 | []=>rfl
 | a::l=>by rw[AV.hiL,AV.hiL_all l];rfl
theorem RepA.hi_ {G G':QM}{Z:Nat→Prop}{w:World}{a:AV}{v:Value}(hg:∀ id,100000≤id→G' id=G id) (h:RepA G Z w a v):a.hi=true→RepA G' Z w a v:=by
 induction h with
 | any v=>exact fun _=> .any v
 | f hf=>exact fun _=> .f hf
 | slOld id ver sz off n v h1 h2 h3=>
  intro hp
  have:=hg id (by simpa [AV.hi]using hp)
  exact .slOld _ _ _ _ _ _ (by rw[this];exact h1) (by rw[this];exact h2) h3
 | slCap id ver sz off A loc h1=>
  intro hp
  exact .slCap _ _ _ _ _ loc (by rw[hg id (by simpa [AV.hi]using hp)];exact h1)
 | slLive id ver sz off n g o c h1 h2 h3 h4=>
  intro hp
  exact .slLive _ _ _ _ _ g o c (by rw[hg id (by simpa [AV.hi]using hp)];exact h1) h2 h3 h4
 | ptrOld id ver off v h1 h2 h3=>
  intro hp
  have:=hg id (by simpa [AV.hi]using hp)
  exact .ptrOld _ _ _ _ (by rw[this];exact h1) (by rw[this];exact h2) h3
 | ptrLive id ver off g o h1=>
  intro hp
  exact .ptrLive _ _ _ g o (by rw[hg id (by simpa [AV.hi]using hp)];exact h1)
 | mapOld id ver v h1 h2 h3=>
  intro hp
  have:=hg id (by simpa [AV.hi]using hp)
  exact .mapOld _ _ _ (by rw[this];exact h1) (by rw[this];exact h2) h3
 | mapLive id ver g o h1=>
  intro hp
  exact .mapLive _ _ g o (by rw[hg id (by simpa [AV.hi]using hp)];exact h1)
 | agg cells us h1 h2 _ ih=>
  intro hp
  rw[AV.hi,AV.hiL_all]at hp
  exact .agg cells us h1 h2 fun j a u ha hu=>ih j a u ha hu (List.all_eq_true.1 hp a (List.mem_of_getElem? ha))
 | tup cells us h1 _ ih=>
  intro hp
  rw[AV.hi,AV.hiL_all]at hp
  exact .tup cells us h1 fun j a u ha hu=>ih j a u ha hu (List.all_eq_true.1 hp a (List.mem_of_getElem? ha))
 | clo f cells us h1 _ ih=>
  intro hp
  rw[AV.hi,AV.hiL_all]at hp
  exact .clo f cells us h1 fun j a u ha hu=>ih j a u ha hu (List.all_eq_true.1 hp a (List.mem_of_getElem? ha))
 | slcOld id ver sz off n c v h1 h2 h3=>
  intro hp
  have:=hg id (by simpa [AV.hi]using hp)
  exact .slcOld _ _ _ _ _ _ _ (by rw[this];exact h1) (by rw[this];exact h2) h3
 | slcLive id ver sz off n c g o h1 h2 h3 h4=>
  intro hp
  exact .slcLive _ _ _ _ _ _ g o (by rw[hg id (by simpa [AV.hi]using hp)];exact h1) h2 h3 h4
def hiP (H:Heap):Heap:=fun id=>if id<100000 then(0,none)else H id
def mixH (H' H:Heap):Heap:=fun id=>if id<100000 then H id else H' id
def HiC (H:Heap):Prop:=∀ id,100000≤id→∀ cs,((H id).2=some (.cells cs)∨∃ t,(H id).2=some (.ty cs t))→cs.all AV.hi=true
theorem call_hi {P:Program}{f:FuncId}{args:List AV}{H Hc:Heap}{Q:AV→Heap→Prop}(hF:FCall P f args Hc Q) (hH:hiP H=Hc) (hq:∀ r H',Q r H'→r.hi=true∧HiC H') (hc:HiC H) (ha:args.all AV.hi=true) :
  ACall P f args H (fun r H''=>∃ H',Q r H'∧H''=mixH H' H):=by
 subst hH
 refine⟨hF.1,fun G Z w vs st hsz hrep=> ?_⟩
 let Gc:QM:=fun id=>if id<100000 then(0,none)else G id
 have gin:∀ id,100000≤id→Gc id=G id:=fun id h=>if_neg (by omega)
 have gout:∀ id,id<100000→Gc id=(0,none):=fun id h=>if_pos h
 have hin:∀ id,100000≤id→hiP H id=H id:=fun id h=>if_neg (by omega)
 have hout:∀ id,id<100000→hiP H id=(0,none):=fun id h=>if_pos h
 have gl:∀ id g o,(Gc id).2=some (some (g,o))→100000≤id∧(G id).2=some (some (g,o)):=fun id g o h=>by
  by_cases e:id<100000
  ·rw[gout id e]at h;cases h
  ·rw[gin id (by omega)]at h;exact⟨by omega,h⟩
 have stc:St P Gc (hiP H) Z w:=by
  refine⟨fun id=> ?_,fun id h=> ?_,fun id o h=> ?_,fun i1 i2 g o1 o2 h1 h2=>st.inj _ _ _ _ _ (gl _ _ _ h1).2 (gl _ _ _ h2).2,fun id g o h=>st.disj _ _ _ (gl _ _ _ h).2,st.zlt,fun id g o h=>st.glt _ _ _ (gl _ _ _ h).2,fun id g o h=>st.ones _ _ _ (gl _ _ _ h).2⟩
  ·by_cases e:id<100000
   ·rw[gout id e,hout id e]
   ·rw[gin id (by omega),hin id (by omega)];exact st.ver id
  ·by_cases e:id<100000
   ·rw[gout id e]
   ·rw[hin id (by omega)]at h
    rw[gin id (by omega)];exact st.dead id h
  ·by_cases e:id<100000
   ·rw[hout id e]at h;cases h
   ·rw[hin id (by omega)]at h
    rw[gin id (by omega)]
    obtain⟨loc,h1,h2⟩:=st.obj id o h
    refine⟨loc,h1,?_⟩
    cases loc with
    | none=>cases o<;>exact h2
    | some q=>
     obtain⟨g,ob⟩:=q
     cases o with
     | cells cs=>
      obtain⟨arr,e,h3,h4⟩:=h2
      refine⟨arr,e,h3,fun j a hj=> ?_⟩
      obtain⟨u,k1,k2,k3⟩:=h4 j a hj
      exact⟨u,k1,k2,k3.hi_ gin (List.all_eq_true.1 (hc id (by omega) cs (.inl h)) a (List.mem_of_getElem? hj))⟩
     | ty cs tt=>
      obtain⟨h00,arr,h3,h4⟩:=h2
      refine⟨h00,arr,h3,fun j a hj=> ?_⟩
      obtain⟨u,k1,k2,k3⟩:=h4 j a hj
      exact⟨u,k1,k2,k3.hi_ gin (List.all_eq_true.1 (hc id (by omega) cs (.inr ⟨_,h⟩)) a (List.mem_of_getElem? hj))⟩
     | _=>exact h2
 refine(hF.2 Gc Z w vs stc hsz fun j a v hj hv=>(hrep j a v hj hv).hi_ gin (List.all_eq_true.1 ha a (List.mem_of_getElem? hj))).mono fun e w1 ⟨v,r,H1,G1,Z1,e1,hQ,st1,hh,hr⟩=> ?_
 obtain⟨hrh,hcl⟩:=hq r H1 hQ
 let G2:QM:=fun id=>if id<100000 then G id else G1 id
 have g2h:∀ id,100000≤id→G2 id=G1 id:=fun id h=>if_neg (by omega)
 have g2l:∀ id,id<100000→G2 id=G id:=fun id h=>if_pos h
 have m2h:∀ id,100000≤id→mixH H1 H id=H1 id:=fun id h=>if_neg (by omega)
 have m2l:∀ id,id<100000→mixH H1 H id=H id:=fun id h=>if_pos h
 have nlow:∀ id g o,id<100000→(G id).2=some (some (g,o))→¬ Qb Gc g:=fun id g o h1 h2 ⟨id2,o2,h3⟩=>by
  obtain⟨k1,k2⟩:=gl _ _ _ h3
  have:=st.inj _ _ _ _ _ h2 k2
  omega
 have nz:∀ id g o,id<100000→(G id).2=some (some (g,o))→¬ Z1 g:=fun id g o h1 h2 hz=>by
  rcases hh.zout g hz with h|h|h
  ·exact st.disj _ _ _ h2 h
  ·exact nlow id g o h1 h2 h
  ·have:=st.glt _ _ _ h2;omega
 have nl1:∀ id g o,id<100000→(G id).2=some (some (g,o))→¬ Qb G1 g:=fun id g o h1 h2 hl=>by
  rcases hh.live g hl with h|h
  ·exact nlow id g o h1 h2 h
  ·have:=st.glt _ _ _ h2;omega
 have old:∀ b,b<w.heap.size→¬ Qb Gc b→w1.heap[b]? = w.heap[b]?:=hh.old
 have lvc:∀ b,Qb Gc b→Qb G b:=fun b ⟨id,o,h⟩=>⟨id,o,(gl _ _ _ h).2⟩
 have hk:Keep G Z w G2 Z1 w1:=by
  refine⟨hh.zin,fun id=> ?_,fun id e=> ?_,fun b arr e fz hlb h=> ?_⟩
  ·by_cases e:id<100000
   ·rw[g2l id e];exact Nat.le_refl _
   ·rw[g2h id (by omega)];have:=hh.ver id (by omega);rw[gin id (by omega)]at this;exact this
  ·by_cases e':id<100000
   ·rw[g2l id e'];exact .inr rfl
   ·rw[g2h id (by omega)]at e ⊢
    have:=hh.same id (by omega) (by rw[gin id (by omega)];exact e)
    rw[gin id (by omega)]at this;exact this
  ·by_cases hc:Qb Gc b
   ·exact hh.room b arr e fz hc h
   ·exact⟨arr,e,fz,by rw[old b (VK h) hc];exact h,rfl⟩
 have st2:St P G2 (mixH H1 H) Z1 w1:=by
  refine⟨fun id=> ?_,fun id h=> ?_,fun id o h=> ?_,fun i1 i2 g o1 o2 h1 h2=> ?_,fun id g o h=> ?_,st1.zlt,fun id g o h=> ?_,fun id g o h=> ?_⟩
  ·by_cases e:id<100000
   ·rw[g2l id e,m2l id e];exact st.ver id
   ·rw[g2h id (by omega),m2h id (by omega)];exact st1.ver id
  ·by_cases e:id<100000
   ·rw[m2l id e]at h;rw[g2l id e];exact st.dead id h
   ·rw[m2h id (by omega)]at h;rw[g2h id (by omega)];exact st1.dead id h
  ·by_cases e:id<100000
   ·rw[m2l id e]at h;rw[g2l id e]
    obtain⟨loc,k1,k2⟩:=st.obj id o h
    refine⟨loc,k1,?_⟩
    cases loc with
    | none=>cases o<;>exact k2
    | some q=>
     obtain⟨g,ob⟩:=q
     have hb:=old g (st.glt _ _ _ k1) (nlow id g ob e k1)
     cases o with
     | cells cs=>
      obtain⟨arr,e,k3,k4⟩:=k2
      exact⟨arr,e,hb.trans k3,k4.mono fun a v hr=>hr.keep hk⟩
     | ty cs tt=>
      obtain⟨h00,arr,k3,k4⟩:=k2
      exact⟨h00,arr,(by rw[hb];exact k3),k4.mono fun a v hr=>hr.keep hk⟩
     | _=>
      obtain⟨k3,es,clock,k4,k5⟩:=k2
      exact⟨k3,es,clock,hb.trans k4,k5⟩
   ·rw[m2h id (by omega)]at h;rw[g2h id (by omega)]
    obtain⟨loc,k1,k2⟩:=st1.obj id o h
    refine⟨loc,k1,?_⟩
    cases loc with
    | none=>cases o<;>exact k2
    | some q=>
     obtain⟨g,ob⟩:=q
     cases o with
     | cells cs=>
      obtain⟨arr,e,k3,k4⟩:=k2
      refine⟨arr,e,k3,fun j a hj=> ?_⟩
      obtain⟨u,q1,q2,q3⟩:=k4 j a hj
      exact⟨u,q1,q2,q3.hi_ g2h (List.all_eq_true.1 (hcl id (by omega) cs (.inl h)) a (List.mem_of_getElem? hj))⟩
     | ty cs tt=>
      obtain⟨h00,arr,k3,k4⟩:=k2
      refine⟨h00,arr,k3,fun j a hj=> ?_⟩
      obtain⟨u,q1,q2,q3⟩:=k4 j a hj
      exact⟨u,q1,q2,q3.hi_ g2h (List.all_eq_true.1 (hcl id (by omega) cs (.inr ⟨_,h⟩)) a (List.mem_of_getElem? hj))⟩
     | _=>exact k2
  ·by_cases e1:i1<100000<;>by_cases e2:i2<100000
   ·rw[g2l i1 e1]at h1;rw[g2l i2 e2]at h2;exact st.inj _ _ _ _ _ h1 h2
   ·rw[g2l i1 e1]at h1;rw[g2h i2 (by omega)]at h2;exact absurd ⟨i2,o2,h2⟩ (nl1 i1 g o1 e1 h1)
   ·rw[g2h i1 (by omega)]at h1;rw[g2l i2 e2]at h2;exact absurd ⟨i1,o1,h1⟩ (nl1 i2 g o2 e2 h2)
   ·rw[g2h i1 (by omega)]at h1;rw[g2h i2 (by omega)]at h2;exact st1.inj _ _ _ _ _ h1 h2
  ·by_cases e:id<100000
   ·rw[g2l id e]at h;exact nz id g o e h
   ·rw[g2h id (by omega)]at h;exact st1.disj _ _ _ h
  ·by_cases e:id<100000
   ·rw[g2l id e]at h;exact Nat.lt_of_lt_of_le (st.glt _ _ _ h) hh.size
   ·rw[g2h id (by omega)]at h;exact st1.glt _ _ _ h
  ·by_cases e:id<100000
   ·rw[g2l id e]at h;exact(st.ones _ _ _ h).same (old g (st.glt _ _ _ h) (nlow id g o e h))
   ·rw[g2h id (by omega)]at h;exact st1.ones _ _ _ h
 refine⟨v,r,_,G2,Z1,e1,⟨H1,hQ,rfl⟩,st2,⟨hk,hh.os,hh.tape,hh.output,hh.size,fun b hb hn=>old b hb fun hc=>hn (lvc b hc),fun b hb=> ?_,fun b hb=> ?_⟩,hr.hi_ g2h hrh⟩
 ·rcases hh.zout b hb with h|h|h
  ·exact .inl h
  ·exact .inr (.inl (lvc b h))
  ·exact .inr (.inr h)
 ·obtain⟨id,o,h⟩:=hb
  by_cases e:id<100000
  ·rw[g2l id e]at h;exact .inl ⟨id,o,h⟩
  ·rw[g2h id (by omega)]at h
   exact(hh.live b ⟨id,o,h⟩).imp (lvc b) (fun h=>h)

abbrev Mv:=List (Nat × Nat × Nat)
def mvTo (H:Heap) (l:Mv) (id ver:Nat):Option (Nat × Nat):=match l.find? (fun e=>e.1 == id)with
 | some e=>if ver=(H id).1 then some e.2 else none
 | none=>if l.any (fun e=>e.2.1 == id)then none else some (id,ver)
def mvT (H:Heap) (l:Mv):Turn:=
 ⟨fun id ver sz off n=>match mvTo H l id ver with|some q=> .sl q.1 q.2 sz off n|none=> .any,
  fun id ver off=>match mvTo H l id ver with|some q=> .ptr q.1 q.2 off|none=> .any,
  fun id ver=>match mvTo H l id ver with|some q=> .map q.1 q.2|none=> .any,
  fun id ver sz off n c=>match mvTo H l id ver with|some q=> .slc q.1 q.2 sz off n c|none=> .any⟩
def tnO (τ : Turn):AObj→AObj
 | .cells cs=> .cells (AV.turnL τ cs)
 | .map m=> .map m
 | .ty cs t=> .ty (AV.turnL τ cs) t
def mvH (H:Heap) (l:Mv):Heap:=fun id=>match l.find? (fun e=>e.2.1 == id)with
 | some e=>(e.2.2,(H e.1).2.map (tnO (mvT H l)))
 | none=>if l.any (fun e=>e.1 == id)then((H id).1,none)else((H id).1,(H id).2.map (tnO (mvT H l)))
def mvG (G:QM) (l:Mv):QM:=fun id=>match l.find? (fun e=>e.2.1 == id)with
 | some e=>(e.2.2,(G e.1).2)
 | none=>if l.any (fun e=>e.1 == id)then((G id).1,none)else G id
structure MvOk (H:Heap) (l:Mv):Prop where
 xs:(l.map (·.1)).Nodup
 ys:(l.map (·.2.1)).Nodup
 ver:∀ e∈l,100000≤e.2.1∧(H e.2.1).1<e.2.2
theorem ZJ {α : Type}{key : α→Nat} : ∀ {l:List α}{e : α},(l.map key).Nodup→e∈l→l.find? (fun x=>key x == key e)=some e
 | [],e,_,h=>by cases h
 | a::l,e,hn,h=>by
  rw[List.map_cons,List.nodup_cons]at hn
  rw[List.find?_cons]
  rcases List.mem_cons.1 h with rfl|h
  ·simp
  ·have : ¬ key a=key e:=fun e2=>hn.1 (List.mem_map.2 ⟨e,h,e2.symm⟩)
   simp only[beq_eq_false_iff_ne.2 this]
   exact ZJ hn.2 h
section
variable {P:Program}{G:QM}{H:Heap}{Z:Nat→Prop}{w:World}{l:Mv}
theorem QBy (hl:MvOk H l){e:Nat × Nat × Nat}(h:e∈l):mvG G l e.2.1=(e.2.2,(G e.1).2):=by
 unfold mvG
 rw[ZJ (key:=fun e:Nat × Nat × Nat=>e.2.1) hl.ys h]
theorem ZU {id:Nat}(h1:∀ e∈l,e.2.1≠id) (h2:∀ e∈l,e.1≠id):mvG G l id=G id:=by
 unfold mvG
 rw[List.find?_eq_none.2 fun e he=>by simpa using h1 e he]
 have:l.any (fun e=>e.1 == id)=false:=List.any_eq_false.2 fun e he=>by simpa using h2 e he
 rw[this];rfl
theorem mvG_x {id:Nat}(h1:∀ e∈l,e.2.1≠id) (h2:∃ e∈l,e.1=id):mvG G l id=((G id).1,none):=by
 unfold mvG
 rw[List.find?_eq_none.2 fun e he=>by simpa using h1 e he]
 obtain⟨e,he,h⟩:=h2
 have:l.any (fun e=>e.1 == id)=true:=List.any_eq_true.2 ⟨e,he,by simpa using h⟩
 rw[this];rfl
theorem Jm (l:Mv) (id:Nat):(∃ e∈l,e.2.1=id)∨((∀ e∈l,e.2.1≠id)∧∃ e∈l,e.1=id)∨((∀ e∈l,e.2.1≠id)∧∀ e∈l,e.1≠id):=by
 by_cases h1:∃ e∈l,e.2.1=id
 ·exact .inl h1
 ·have h1':∀ e∈l,e.2.1≠id:=fun e he h=>h1 ⟨e,he,h⟩
  by_cases h2:∃ e∈l,e.1=id
  ·exact .inr (.inl ⟨h1',h2⟩)
  ·exact .inr (.inr ⟨h1',fun e he h=>h2 ⟨e,he,h⟩⟩)
theorem mvTo_is (st:St P G H Z w) (hl:MvOk H l){id ver y v:Nat}(h:mvTo H l id ver=some (y,v)):(∃ e∈l,e.1=id∧e.2=(y,v)∧ver=(G id).1∧mvG G l y=(v,(G id).2))∨(y=id∧v=ver∧mvG G l y=G id):=by
 unfold mvTo at h
 split at h
 ·rename_i e he
  have hm:=List.mem_of_find?_eq_some he
  have hk:e.1=id:=by simpa using List.find?_some he
  split at h
  ·rename_i hv
   have h3:=Option.some.inj h
   refine .inl ⟨e,hm,hk,h3,by rw[st.ver];exact hv,?_⟩
   have:=QBy (G:=G) hl hm
   rw[h3,hk]at this;exact this
  ·cases h
 ·rename_i hn
  split at h
  ·cases h
  ·rename_i ha
   simp only[Option.some.injEq,Prod.mk.injEq]at h
   obtain⟨rfl,rfl⟩:=h
   refine .inr ⟨rfl,rfl,ZU (fun e he h2=>ha (List.any_eq_true.2 ⟨e,he,by simpa using h2⟩)) fun e he h2=> ?_⟩
   exact List.find?_eq_none.1 hn e he (by simpa using h2)
theorem Wm (st:St P G H Z w) (hl:MvOk H l):QDH G Z w (mvG G l) Z w (mvT H l):=by
 refine⟨fun b hb=>⟨hb,rfl⟩,fun id ver sz off n v hr=> ?_,fun id ver off v hr=> ?_,fun id ver v hr=> ?_,fun id ver sz off n c v hr=> ?_⟩
 all_goals simp only[mvT]
 all_goals cases hq:mvTo H l id ver with
  | none=>exact .any v
  | some q=> ?_
 all_goals
  obtain⟨y,vy⟩:=q
  rcases mvTo_is st hl hq with⟨e,_,_,_,hv,hg⟩|⟨rfl,rfl,hg⟩
 all_goals simp only
 ·cases hr with
  | slOld _ _ _ _ _ _ h1 h2 h3=>exact .slOld _ _ _ _ _ _ (by rw[hg];exact Nat.le_refl _) (fun _=>by rw[hg];exact h2 hv) h3
  | slCap _ _ _ _ A loc h1=>exact .slCap _ _ _ _ A loc (by rw[hg,h1])
  | slLive _ _ _ _ _ g o c h1 h2 h3 h4=>exact .slLive _ _ _ _ _ g o c (by rw[hg,h1]) h2 h3 h4
 ·cases hr with
  | slOld _ _ _ _ _ _ h1 h2 h3=>exact .slOld _ _ _ _ _ _ (by rw[hg];exact h1) (by rw[hg];exact h2) h3
  | slCap _ _ _ _ A loc h1=>exact .slCap _ _ _ _ A loc (by rw[hg];exact h1)
  | slLive _ _ _ _ _ g o c h1 h2 h3 h4=>exact .slLive _ _ _ _ _ g o c (by rw[hg];exact h1) h2 h3 h4
 ·cases hr with
  | ptrOld _ _ _ _ h1 h2 h3=>exact .ptrOld _ _ _ _ (by rw[hg];exact Nat.le_refl _) (fun _=>by rw[hg];exact h2 hv) h3
  | ptrLive _ _ _ g o h1=>exact .ptrLive _ _ _ g o (by rw[hg,h1])
 ·cases hr with
  | ptrOld _ _ _ _ h1 h2 h3=>exact .ptrOld _ _ _ _ (by rw[hg];exact h1) (by rw[hg];exact h2) h3
  | ptrLive _ _ _ g o h1=>exact .ptrLive _ _ _ g o (by rw[hg];exact h1)
 ·cases hr with
  | mapOld _ _ _ h1 h2 h3=>exact .mapOld _ _ _ (by rw[hg];exact Nat.le_refl _) (fun _=>by rw[hg];exact h2 hv) h3
  | mapLive _ _ g o h1=>exact .mapLive _ _ g o (by rw[hg,h1])
 ·cases hr with
  | mapOld _ _ _ h1 h2 h3=>exact .mapOld _ _ _ (by rw[hg];exact h1) (by rw[hg];exact h2) h3
  | mapLive _ _ g o h1=>exact .mapLive _ _ g o (by rw[hg];exact h1)
 ·cases hr with
  | slcOld _ _ _ _ _ _ _ h1 h2 h3=>exact .slcOld _ _ _ _ _ _ _ (by rw[hg];exact Nat.le_refl _) (fun _=>by rw[hg];exact h2 hv) h3
  | slcLive _ _ _ _ _ _ g o h1 h2 h3 h4=>exact .slcLive _ _ _ _ _ _ g o (by rw[hg,h1]) h2 h3 h4
 ·cases hr with
  | slcOld _ _ _ _ _ _ _ h1 h2 h3=>exact .slcOld _ _ _ _ _ _ _ (by rw[hg];exact h1) (by rw[hg];exact h2) h3
  | slcLive _ _ _ _ _ _ g o h1 h2 h3 h4=>exact .slcLive _ _ _ _ _ _ g o (by rw[hg];exact h1) h2 h3 h4
theorem Wn {id g o:Nat}(hl:MvOk H l) (h:(mvG G l id).2=some (some (g,o))):∃ i,(G i).2=some (some (g,o))∧((∃ e∈l,e.1=i∧e.2.1=id)∨(i=id∧∀ e∈l,e.1≠i)):=by
 rcases Jm l id with⟨e,he,rfl⟩|⟨h1,h2⟩|⟨h1,h2⟩
 ·rw[QBy hl he]at h
  exact⟨e.1,h,.inl ⟨e,he,rfl,rfl⟩⟩
 ·rw[mvG_x h1 h2]at h;cases h
 ·rw[ZU h1 h2]at h
  exact⟨id,h,.inr ⟨rfl,h2⟩⟩
theorem mv_uniq (hl:MvOk H l){e e':Nat × Nat × Nat}(he:e∈l) (he':e'∈l) (h:e.1=e'.1):e=e':=by
 have h1:=ZJ (key:=fun e:Nat × Nat × Nat=>e.1) hl.xs he
 have h2:=ZJ (key:=fun e:Nat × Nat × Nat=>e.1) hl.xs he'
 simp only[h]at h1
 rw[h1]at h2
 exact Option.some.inj h2
theorem objR_turn (st:St P G H Z w) (hl:MvOk H l){loc:Option (Nat × Nat)}{o:AObj}(h:ObjR P G Z w loc o):ObjR P (mvG G l) Z w loc (tnO (mvT H l) o):=by
 cases loc with
 | none=>
  cases o with
  | cells cs=>
   have:cs = []:=h
   subst this;rfl
  | ty cs tt=>
   exact h.elim
  | _=>exact h
 | some q=>
  obtain⟨g,ob⟩:=q
  cases o with
  | cells cs=>
   obtain⟨arr,e,h4,h5⟩:=h
   refine⟨arr,e,h4,fun j x hx=> ?_⟩
   rw[AV.turnL_eq,List.getElem?_map]at hx
   obtain⟨y,hy,rfl⟩:=Option.map_eq_some_iff.1 hx
   obtain⟨u,h6,h7,h8⟩:=h5 j y hy
   exact⟨u,h6,h7,h8.turn (Wm st hl)⟩
  | ty cs tt=>
   obtain⟨h00,arr,h4,h5⟩:=h
   refine⟨h00,arr,by rw[AV.turnL_eq,List.length_map];exact h4,fun j x hx=> ?_⟩
   rw[AV.turnL_eq,List.getElem?_map]at hx
   obtain⟨y,hy,rfl⟩:=Option.map_eq_some_iff.1 hx
   obtain⟨u,h6,h7,h8⟩:=h5 j y hy
   exact⟨u,h6,h7,h8.turn (Wm st hl)⟩
  | _=>exact h
theorem St.mv (st:St P G H Z w) (hl:MvOk H l):St P (mvG G l) (mvH H l) Z w∧Hist G Z w (mvG G l) Z w:=by
 have hy:∀ e∈l,mvH H l e.2.1=(e.2.2,(H e.1).2.map (tnO (mvT H l))):=fun e he=>by
  unfold mvH
  rw[ZJ (key:=fun e:Nat × Nat × Nat=>e.2.1) hl.ys he]
 have hx:∀ id,(∀ e∈l,e.2.1≠id)→(∃ e∈l,e.1=id)→mvH H l id=((H id).1,none):=fun id h1 ⟨e,he,h2⟩=>by
  unfold mvH
  rw[List.find?_eq_none.2 fun e he=>by simpa using h1 e he]
  have:l.any (fun e=>e.1 == id)=true:=List.any_eq_true.2 ⟨e,he,by simpa using h2⟩
  rw[this];rfl
 have hn:∀ id,(∀ e∈l,e.2.1≠id)→(∀ e∈l,e.1≠id)→mvH H l id=((H id).1,(H id).2.map (tnO (mvT H l))):=fun id h1 h2=>by
  unfold mvH
  rw[List.find?_eq_none.2 fun e he=>by simpa using h1 e he]
  have:l.any (fun e=>e.1 == id)=false:=List.any_eq_false.2 fun e he=>by simpa using h2 e he
  rw[this];rfl
 have hob:∀ i o,(H i).2.map (tnO (mvT H l))=some o→∃ loc,(G i).2=some loc∧ObjR P (mvG G l) Z w loc o:=fun i o h=>by
  obtain⟨o',h1,rfl⟩:=Option.map_eq_some_iff.1 h
  obtain⟨loc,h2,h3⟩:=st.obj i o' h1
  exact⟨loc,h2,objR_turn st hl h3⟩
 have hlv:∀ b,Qb (mvG G l) b→Qb G b:=fun b ⟨id,o,h⟩=>by
  obtain⟨i,h1,_⟩:=Wn hl h
  exact⟨i,o,h1⟩
 refine⟨⟨fun id=> ?_,fun id h=> ?_,fun id o h=> ?_,fun i1 i2 g o1 o2 h1 h2=> ?_,fun id g o h=> ?_,st.zlt,fun id g o h=> ?_,fun id g o h=> ?_⟩,⟨rfl,rfl,rfl,Nat.le_refl _,fun _ _ _=>rfl,fun b hb=>⟨hb,rfl⟩,fun b hb=> .inl hb,fun b hb=> .inl (hlv b hb),fun b arr e fz _ h=>⟨arr,e,fz,h,rfl⟩,fun id hid=> ?_,fun id hid e=> ?_⟩⟩
 ·rcases Jm l id with⟨e,he,rfl⟩|⟨h1,h2⟩|⟨h1,h2⟩
  ·rw[QBy hl he,hy e he]
  ·rw[mvG_x h1 h2,hx id h1 h2];exact st.ver id
  ·rw[ZU h1 h2,hn id h1 h2];exact st.ver id
 ·rcases Jm l id with⟨e,he,rfl⟩|⟨h1,h2⟩|⟨h1,h2⟩
  ·rw[hy e he]at h
   rw[QBy hl he]
   exact st.dead e.1 (by simpa using h)
  ·rw[mvG_x h1 h2]
  ·rw[hn id h1 h2]at h
   rw[ZU h1 h2]
   exact st.dead id (by simpa using h)
 ·rcases Jm l id with⟨e,he,rfl⟩|⟨h1,h2⟩|⟨h1,h2⟩
  ·rw[hy e he]at h
   rw[QBy hl he]
   exact hob _ _ h
  ·rw[hx id h1 h2]at h;cases h
  ·rw[hn id h1 h2]at h
   rw[ZU h1 h2]
   exact hob _ _ h
 ·obtain⟨a1,k1,k2⟩:=Wn hl h1
  obtain⟨a2,k3,k4⟩:=Wn hl h2
  have:=st.inj _ _ _ _ _ k1 k3
  subst this
  rcases k2 with⟨e,he,q1,q2⟩|⟨q1,q2⟩<;>rcases k4 with⟨e',he',q3,q4⟩|⟨q3,q4⟩
  ·have:=mv_uniq hl he he' (q1.trans q3.symm)
   rw[← q2,← q4,this]
  ·exact absurd q1 (q4 e he)
  ·exact absurd q3 (q2 e' he')
  ·rw[← q1,← q3]
 ·obtain⟨i,h1,_⟩:=Wn hl h;exact st.disj _ _ _ h1
 ·obtain⟨i,h1,_⟩:=Wn hl h;exact st.glt _ _ _ h1
 ·obtain⟨i,h1,_⟩:=Wn hl h;exact st.ones _ _ _ h1
 ·rcases Jm l id with⟨e,he,rfl⟩|⟨h1,h2⟩|⟨h1,h2⟩
  ·rw[QBy hl he]
   have:=(hl.ver e he).2
   rw[← st.ver]at this
   exact Nat.le_of_lt this
  ·rw[mvG_x h1 h2];exact Nat.le_refl _
  ·rw[ZU h1 h2];exact Nat.le_refl _
 ·rcases Jm l id with⟨e',he,rfl⟩|⟨h1,h2⟩|⟨h1,h2⟩
  ·rw[QBy hl he]at e
   have:=(hl.ver e' he).2
   rw[← st.ver]at this
   simp only at e
   omega
  ·rw[mvG_x h1 h2];exact .inl rfl
  ·rw[ZU h1 h2];exact .inr rfl
end
theorem FCall.mv {P:Program}{f:FuncId}{args:List AV}{H:Heap}{Q:AV→Heap→Prop}(h:FCall P f args H (fun r H'=>∃ l,MvOk H' l∧Q (r.turn (mvT H' l)) (mvH H' l))):FCall P f args H Q:=
 ⟨h.1,fun G Z w vs h1 h2 h3=>(h.2 G Z w vs h1 h2 h3).mono fun e w' ⟨v,r,H',G',Z',e1,⟨l,hl,hq⟩,st,hh,hrep⟩=>by
  obtain⟨st2,hh2⟩:=st.mv hl
  exact⟨v,_,_,_,Z',e1,hq,st2,hh.trans hh2,hrep.turn (Wm st hl)⟩⟩
end Go.Proofs.YtjfchihkhpinmaaGreatDoor
