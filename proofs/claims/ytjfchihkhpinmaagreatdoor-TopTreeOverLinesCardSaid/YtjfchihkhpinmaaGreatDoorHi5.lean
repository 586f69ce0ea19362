/-
  Calls that share the five high numbers with their caller, whatever other numbers there are. No statement of the seat is proved here; no conditions.
-/
import Derived.Test.YtjfchihkhpinmaaGreatDoorHi2
import Derived.Test.YtjfchihkhpinmaaGreatDoorWrC
namespace Go.Proofs.YtjfchihkhpinmaaGreatDoor
open Go.RowKit
set_option linter.unusedVariables false
set_option linter.unusedSimpArgs false

theorem QS {id:Nat}(h : ¬ isHi id=false):isHi id=true:=by simpa using h
theorem Qt {id:Nat}(h:isHi id=true) : ¬ isHi id=false:=by rw[h];decide
theorem QT {id:Nat}(h:isHi id=true):100000≤id:=by
 simp only[isHi,decide_eq_true_eq]at h
 omega
mutual
def AV.hi5:AV→Bool
 | .any=>true
 | .f _=>true
 | .sl id _ _ _ _=>isHi id
 | .ptr id _ _=>isHi id
 | .map id _=>isHi id
 | .agg l=>AV.hiL5 l
 | .tup l=>AV.hiL5 l
 | .clo _ l=>AV.hiL5 l
 | .slc id _ _ _ _ _=>isHi id
def AV.hiL5:List AV→Bool
 | []=>true
 | a::l=>a.hi5&&AV.hiL5 l
end
theorem AV.hiL5_all:∀ l:List AV,AV.hiL5 l=l.all AV.hi5
 | []=>rfl
 | a::l=>by rw[AV.hiL5,AV.hiL5_all l];rfl
theorem RepA.hi5_ {G G':QM}{Z:Nat→Prop}{w:World}{a:AV}{v:Value}(hg:∀ id,isHi id=true→G' id=G id) (h:RepA G Z w a v):a.hi5=true→RepA G' Z w a v:=by
 induction h with
 | any v=>exact fun _=> .any v
 | f hf=>exact fun _=> .f hf
 | slOld id ver sz off n v h1 h2 h3=>
  intro hp
  have:=hg id (by simpa [AV.hi5]using hp)
  exact .slOld _ _ _ _ _ _ (by rw[this];exact h1) (by rw[this];exact h2) h3
 | slCap id ver sz off A loc h1=>
  intro hp
  exact .slCap _ _ _ _ _ loc (by rw[hg id (by simpa [AV.hi5]using hp)];exact h1)
 | slLive id ver sz off n g o c h1 h2 h3 h4=>
  intro hp
  exact .slLive _ _ _ _ _ g o c (by rw[hg id (by simpa [AV.hi5]using hp)];exact h1) h2 h3 h4
 | ptrOld id ver off v h1 h2 h3=>
  intro hp
  have:=hg id (by simpa [AV.hi5]using hp)
  exact .ptrOld _ _ _ _ (by rw[this];exact h1) (by rw[this];exact h2) h3
 | ptrLive id ver off g o h1=>
  intro hp
  exact .ptrLive _ _ _ g o (by rw[hg id (by simpa [AV.hi5]using hp)];exact h1)
 | mapOld id ver v h1 h2 h3=>
  intro hp
  have:=hg id (by simpa [AV.hi5]using hp)
  exact .mapOld _ _ _ (by rw[this];exact h1) (by rw[this];exact h2) h3
 | mapLive id ver g o h1=>
  intro hp
  exact .mapLive _ _ g o (by rw[hg id (by simpa [AV.hi5]using hp)];exact h1)
 | agg cells us h1 h2 _ ih=>
  intro hp
  rw[AV.hi5,AV.hiL5_all]at hp
  exact .agg cells us h1 h2 fun j a u ha hu=>ih j a u ha hu (List.all_eq_true.1 hp a (List.mem_of_getElem? ha))
 | tup cells us h1 _ ih=>
  intro hp
  rw[AV.hi5,AV.hiL5_all]at hp
  exact .tup cells us h1 fun j a u ha hu=>ih j a u ha hu (List.all_eq_true.1 hp a (List.mem_of_getElem? ha))
 | clo f cells us h1 _ ih=>
  intro hp
  rw[AV.hi5,AV.hiL5_all]at hp
  exact .clo f cells us h1 fun j a u ha hu=>ih j a u ha hu (List.all_eq_true.1 hp a (List.mem_of_getElem? ha))
 | slcOld id ver sz off n c v h1 h2 h3=>
  intro hp
  have:=hg id (by simpa [AV.hi5]using hp)
  exact .slcOld _ _ _ _ _ _ _ (by rw[this];exact h1) (by rw[this];exact h2) h3
 | slcLive id ver sz off n c g o h1 h2 h3 h4=>
  intro hp
  exact .slcLive _ _ _ _ _ _ g o (by rw[hg id (by simpa [AV.hi5]using hp)];exact h1) h2 h3 h4
def hiP5 (H:Heap):Heap:=fun id=>if isHi id=false then(0,none)else H id
def Od (H' H:Heap):Heap:=fun id=>if isHi id=false then H id else H' id
def HiC5 (H:Heap):Prop:=∀ id,isHi id=true→∀ cs,((H id).2=some (.cells cs)∨∃ t,(H id).2=some (.ty cs t))→cs.all AV.hi5=true
theorem call_hi5 {P:Program}{f:FuncId}{args:List AV}{H Hc:Heap}{Q:AV→Heap→Prop}(hF:FCall P f args Hc Q) (hH:hiP5 H=Hc) (hq:∀ r H',Q r H'→r.hi5=true∧HiC5 H') (hc:HiC5 H) (ha:args.all AV.hi5=true) :
  ACall P f args H (fun r H''=>∃ H',Q r H'∧H''=Od H' H):=by
 subst hH
 refine⟨hF.1,fun G Z w vs st hsz hrep=> ?_⟩
 let Gc:QM:=fun id=>if isHi id=false then(0,none)else G id
 have gin:∀ id,isHi id=true→Gc id=G id:=fun id h=>if_neg (by first|assumption|exact QS (by assumption)|exact QT (QS (by assumption))|exact Qt (by assumption)|exact QT (by assumption))
 have gout:∀ id,isHi id=false→Gc id=(0,none):=fun id h=>if_pos h
 have hin:∀ id,isHi id=true→hiP5 H id=H id:=fun id h=>if_neg (by first|assumption|exact QS (by assumption)|exact QT (QS (by assumption))|exact Qt (by assumption)|exact QT (by assumption))
 have hout:∀ id,isHi id=false→hiP5 H id=(0,none):=fun id h=>if_pos h
 have gl:∀ id g o,(Gc id).2=some (some (g,o))→isHi id=true∧(G id).2=some (some (g,o)):=fun id g o h=>by
  by_cases e:isHi id=false
  ·rw[gout id e]at h;cases h
  ·rw[gin id (by first|assumption|exact QS (by assumption)|exact QT (QS (by assumption))|exact Qt (by assumption)|exact QT (by assumption))]at h;exact⟨(by first|assumption|exact QS (by assumption)|exact QT (QS (by assumption))|exact Qt (by assumption)|exact QT (by assumption)),h⟩
 have stc:St P Gc (hiP5 H) Z w:=by
  refine⟨fun id=> ?_,fun id h=> ?_,fun id o h=> ?_,fun i1 i2 g o1 o2 h1 h2=>st.inj _ _ _ _ _ (gl _ _ _ h1).2 (gl _ _ _ h2).2,fun id g o h=>st.disj _ _ _ (gl _ _ _ h).2,st.zlt,fun id g o h=>st.glt _ _ _ (gl _ _ _ h).2,fun id g o h=>st.ones _ _ _ (gl _ _ _ h).2⟩
  ·by_cases e:isHi id=false
   ·rw[gout id e,hout id e]
   ·rw[gin id (by first|assumption|exact QS (by assumption)|exact QT (QS (by assumption))|exact Qt (by assumption)|exact QT (by assumption)),hin id (by first|assumption|exact QS (by assumption)|exact QT (QS (by assumption))|exact Qt (by assumption)|exact QT (by assumption))];exact st.ver id
  ·by_cases e:isHi id=false
   ·rw[gout id e]
   ·rw[hin id (by first|assumption|exact QS (by assumption)|exact QT (QS (by assumption))|exact Qt (by assumption)|exact QT (by assumption))]at h
    rw[gin id (by first|assumption|exact QS (by assumption)|exact QT (QS (by assumption))|exact Qt (by assumption)|exact QT (by assumption))];exact st.dead id h
  ·by_cases e:isHi id=false
   ·rw[hout id e]at h;cases h
   ·rw[hin id (by first|assumption|exact QS (by assumption)|exact QT (QS (by assumption))|exact Qt (by assumption)|exact QT (by assumption))]at h
    rw[gin id (by first|assumption|exact QS (by assumption)|exact QT (QS (by assumption))|exact Qt (by assumption)|exact QT (by assumption))]
    obtain⟨loc,h1,h2⟩:=st.obj id o h
    refine⟨loc,h1,?_⟩
    cases loc with
    | none=>cases o<;>exact h2
    | some q=>
     obtain⟨g,ob⟩:=q
     cases o with
     | cells cs=>
      obtain⟨arr,e,h3,h4⟩:=h2
      refine⟨arr,e,h3,fun j a hj=> ?_⟩
      obtain⟨u,k1,k2,k3⟩:=h4 j a hj
      exact⟨u,k1,k2,k3.hi5_ gin (List.all_eq_true.1 (hc id (by first|assumption|exact QS (by assumption)|exact QT (QS (by assumption))|exact Qt (by assumption)|exact QT (by assumption)) cs (.inl h)) a (List.mem_of_getElem? hj))⟩
     | ty cs tt=>
      obtain⟨h00,arr,h3,h4⟩:=h2
      refine⟨h00,arr,h3,fun j a hj=> ?_⟩
      obtain⟨u,k1,k2,k3⟩:=h4 j a hj
      exact⟨u,k1,k2,k3.hi5_ gin (List.all_eq_true.1 (hc id (by first|assumption|exact QS (by assumption)|exact QT (QS (by assumption))|exact Qt (by assumption)|exact QT (by assumption)) cs (.inr ⟨_,h⟩)) a (List.mem_of_getElem? hj))⟩
     | _=>exact h2
 refine(hF.2 Gc Z w vs stc hsz fun j a v hj hv=>(hrep j a v hj hv).hi5_ gin (List.all_eq_true.1 ha a (List.mem_of_getElem? hj))).mono fun e w1 ⟨v,r,H1,G1,Z1,e1,hQ,st1,hh,hr⟩=> ?_
 obtain⟨hrh,hcl⟩:=hq r H1 hQ
 let G2:QM:=fun id=>if isHi id=false then G id else G1 id
 have g2h:∀ id,isHi id=true→G2 id=G1 id:=fun id h=>if_neg (by first|assumption|exact QS (by assumption)|exact QT (QS (by assumption))|exact Qt (by assumption)|exact QT (by assumption))
 have g2l:∀ id,isHi id=false→G2 id=G id:=fun id h=>if_pos h
 have m2h:∀ id,isHi id=true→Od H1 H id=H1 id:=fun id h=>if_neg (by first|assumption|exact QS (by assumption)|exact QT (QS (by assumption))|exact Qt (by assumption)|exact QT (by assumption))
 have m2l:∀ id,isHi id=false→Od H1 H id=H id:=fun id h=>if_pos h
 have nlow:∀ id g o,isHi id=false→(G id).2=some (some (g,o))→¬ Qb Gc g:=fun id g o h1 h2 ⟨id2,o2,h3⟩=>by
  obtain⟨k1,k2⟩:=gl _ _ _ h3
  have:=st.inj _ _ _ _ _ h2 k2
  rw[this,k1]at h1;cases h1
 have nz:∀ id g o,isHi id=false→(G id).2=some (some (g,o))→¬ Z1 g:=fun id g o h1 h2 hz=>by
  rcases hh.zout g hz with h|h|h
  ·exact st.disj _ _ _ h2 h
  ·exact nlow id g o h1 h2 h
  ·have:=st.glt _ _ _ h2;omega
 have nl1:∀ id g o,isHi id=false→(G id).2=some (some (g,o))→¬ Qb G1 g:=fun id g o h1 h2 hl=>by
  rcases hh.live g hl with h|h
  ·exact nlow id g o h1 h2 h
  ·have:=st.glt _ _ _ h2;omega
 have old:∀ b,b<w.heap.size→¬ Qb Gc b→w1.heap[b]? = w.heap[b]?:=hh.old
 have lvc:∀ b,Qb Gc b→Qb G b:=fun b ⟨id,o,h⟩=>⟨id,o,(gl _ _ _ h).2⟩
 have hk:Keep G Z w G2 Z1 w1:=by
  refine⟨hh.zin,fun id=> ?_,fun id e=> ?_,fun b arr e fz hlb h=> ?_⟩
  ·by_cases e:isHi id=false
   ·rw[g2l id e];exact Nat.le_refl _
   ·rw[g2h id (by first|assumption|exact QS (by assumption)|exact QT (QS (by assumption))|exact Qt (by assumption)|exact QT (by assumption))];have:=hh.ver id (by first|assumption|exact QS (by assumption)|exact QT (QS (by assumption))|exact Qt (by assumption)|exact QT (by assumption));rw[gin id (by first|assumption|exact QS (by assumption)|exact QT (QS (by assumption))|exact Qt (by assumption)|exact QT (by assumption))]at this;exact this
  ·by_cases e':isHi id=false
   ·rw[g2l id e'];exact .inr rfl
   ·rw[g2h id (by first|assumption|exact QS (by assumption)|exact QT (QS (by assumption))|exact Qt (by assumption)|exact QT (by assumption))]at e ⊢
    have:=hh.same id (by first|assumption|exact QS (by assumption)|exact QT (QS (by assumption))|exact Qt (by assumption)|exact QT (by assumption)) (by rw[gin id (by first|assumption|exact QS (by assumption)|exact QT (QS (by assumption))|exact Qt (by assumption)|exact QT (by assumption))];exact e)
    rw[gin id (by first|assumption|exact QS (by assumption)|exact QT (QS (by assumption))|exact Qt (by assumption)|exact QT (by assumption))]at this;exact this
  ·by_cases hc:Qb Gc b
   ·exact hh.room b arr e fz hc h
   ·exact⟨arr,e,fz,by rw[old b (VK h) hc];exact h,rfl⟩
 have st2:St P G2 (Od H1 H) Z1 w1:=by
  refine⟨fun id=> ?_,fun id h=> ?_,fun id o h=> ?_,fun i1 i2 g o1 o2 h1 h2=> ?_,fun id g o h=> ?_,st1.zlt,fun id g o h=> ?_,fun id g o h=> ?_⟩
  ·by_cases e:isHi id=false
   ·rw[g2l id e,m2l id e];exact st.ver id
   ·rw[g2h id (by first|assumption|exact QS (by assumption)|exact QT (QS (by assumption))|exact Qt (by assumption)|exact QT (by assumption)),m2h id (by first|assumption|exact QS (by assumption)|exact QT (QS (by assumption))|exact Qt (by assumption)|exact QT (by assumption))];exact st1.ver id
  ·by_cases e:isHi id=false
   ·rw[m2l id e]at h;rw[g2l id e];exact st.dead id h
   ·rw[m2h id (by first|assumption|exact QS (by assumption)|exact QT (QS (by assumption))|exact Qt (by assumption)|exact QT (by assumption))]at h;rw[g2h id (by first|assumption|exact QS (by assumption)|exact QT (QS (by assumption))|exact Qt (by assumption)|exact QT (by assumption))];exact st1.dead id h
  ·by_cases e:isHi id=false
   ·rw[m2l id e]at h;rw[g2l id e]
    obtain⟨loc,k1,k2⟩:=st.obj id o h
    refine⟨loc,k1,?_⟩
    cases loc with
    | none=>cases o<;>exact k2
    | some q=>
     obtain⟨g,ob⟩:=q
     have hb:=old g (st.glt _ _ _ k1) (nlow id g ob e k1)
     cases o with
     | cells cs=>
      obtain⟨arr,e,k3,k4⟩:=k2
      exact⟨arr,e,hb.trans k3,k4.mono fun a v hr=>hr.keep hk⟩
     | ty cs tt=>
      obtain⟨h00,arr,k3,k4⟩:=k2
      exact⟨h00,arr,(by rw[hb];exact k3),k4.mono fun a v hr=>hr.keep hk⟩
     | _=>
      obtain⟨k3,es,clock,k4,k5⟩:=k2
      exact⟨k3,es,clock,hb.trans k4,k5⟩
   ·rw[m2h id (by first|assumption|exact QS (by assumption)|exact QT (QS (by assumption))|exact Qt (by assumption)|exact QT (by assumption))]at h;rw[g2h id (by first|assumption|exact QS (by assumption)|exact QT (QS (by assumption))|exact Qt (by assumption)|exact QT (by assumption))]
    obtain⟨loc,k1,k2⟩:=st1.obj id o h
    refine⟨loc,k1,?_⟩
    cases loc with
    | none=>cases o<;>exact k2
    | some q=>
     obtain⟨g,ob⟩:=q
     cases o with
     | cells cs=>
      obtain⟨arr,e,k3,k4⟩:=k2
      refine⟨arr,e,k3,fun j a hj=> ?_⟩
      obtain⟨u,q1,q2,q3⟩:=k4 j a hj
      exact⟨u,q1,q2,q3.hi5_ g2h (List.all_eq_true.1 (hcl id (by first|assumption|exact QS (by assumption)|exact QT (QS (by assumption))|exact Qt (by assumption)|exact QT (by assumption)) cs (.inl h)) a (List.mem_of_getElem? hj))⟩
     | ty cs tt=>
      obtain⟨h00,arr,k3,k4⟩:=k2
      refine⟨h00,arr,k3,fun j a hj=> ?_⟩
      obtain⟨u,q1,q2,q3⟩:=k4 j a hj
      exact⟨u,q1,q2,q3.hi5_ g2h (List.all_eq_true.1 (hcl id (by first|assumption|exact QS (by assumption)|exact QT (QS (by assumption))|exact Qt (by assumption)|exact QT (by assumption)) cs (.inr ⟨_,h⟩)) a (List.mem_of_getElem? hj))⟩
     | _=>exact k2
  ·by_cases e1:isHi i1=false<;>by_cases e2:isHi i2=false
   ·rw[g2l i1 e1]at h1;rw[g2l i2 e2]at h2;exact st.inj _ _ _ _ _ h1 h2
   ·rw[g2l i1 e1]at h1;rw[g2h i2 (by first|assumption|exact QS (by assumption)|exact QT (QS (by assumption))|exact Qt (by assumption)|exact QT (by assumption))]at h2;exact absurd ⟨i2,o2,h2⟩ (nl1 i1 g o1 e1 h1)
   ·rw[g2h i1 (by first|assumption|exact QS (by assumption)|exact QT (QS (by assumption))|exact Qt (by assumption)|exact QT (by assumption))]at h1;rw[g2l i2 e2]at h2;exact absurd ⟨i1,o1,h1⟩ (nl1 i2 g o2 e2 h2)
   ·rw[g2h i1 (by first|assumption|exact QS (by assumption)|exact QT (QS (by assumption))|exact Qt (by assumption)|exact QT (by assumption))]at h1;rw[g2h i2 (by first|assumption|exact QS (by assumption)|exact QT (QS (by assumption))|exact Qt (by assumption)|exact QT (by assumption))]at h2;exact st1.inj _ _ _ _ _ h1 h2
  ·by_cases e:isHi id=false
   ·rw[g2l id e]at h;exact nz id g o e h
   ·rw[g2h id (by first|assumption|exact QS (by assumption)|exact QT (QS (by assumption))|exact Qt (by assumption)|exact QT (by assumption))]at h;exact st1.disj _ _ _ h
  ·by_cases e:isHi id=false
   ·rw[g2l id e]at h;exact Nat.lt_of_lt_of_le (st.glt _ _ _ h) hh.size
   ·rw[g2h id (by first|assumption|exact QS (by assumption)|exact QT (QS (by assumption))|exact Qt (by assumption)|exact QT (by assumption))]at h;exact st1.glt _ _ _ h
  ·by_cases e:isHi id=false
   ·rw[g2l id e]at h;exact(st.ones _ _ _ h).same (old g (st.glt _ _ _ h) (nlow id g o e h))
   ·rw[g2h id (by first|assumption|exact QS (by assumption)|exact QT (QS (by assumption))|exact Qt (by assumption)|exact QT (by assumption))]at h;exact st1.ones _ _ _ h
 refine⟨v,r,_,G2,Z1,e1,⟨H1,hQ,rfl⟩,st2,⟨hk,hh.os,hh.tape,hh.output,hh.size,fun b hb hn=>old b hb fun hc=>hn (lvc b hc),fun b hb=> ?_,fun b hb=> ?_⟩,hr.hi5_ g2h hrh⟩
 ·rcases hh.zout b hb with h|h|h
  ·exact .inl h
  ·exact .inr (.inl (lvc b h))
  ·exact .inr (.inr h)
 ·obtain⟨id,o,h⟩:=hb
  by_cases e:isHi id=false
  ·rw[g2l id e]at h;exact .inl ⟨id,o,h⟩
  ·rw[g2h id (by first|assumption|exact QS (by assumption)|exact QT (QS (by assumption))|exact Qt (by assumption)|exact QT (by assumption))]at h
   exact(hh.live b ⟨id,o,h⟩).imp (lvc b) (fun h=>h)

theorem Ur {A B:Heap}{id:Nat} : Od A B id=if isHi id=false then B id else A id:=rfl
theorem We {A B:Heap}(h:Small B) (ha:Small A):Small (Od A B):=fun id h1 h2=>by
 rw[Ur]
 split
 ·exact h id h1 h2
 ·exact ha id h1 h2
end Go.Proofs.YtjfchihkhpinmaaGreatDoor
