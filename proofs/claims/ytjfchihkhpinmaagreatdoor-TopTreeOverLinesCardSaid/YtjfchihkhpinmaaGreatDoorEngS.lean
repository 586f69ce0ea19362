/-
  The abstract machine: values that hang on no object of one's own; objects that are handed to a function and come back (part 1). No statement of the seat is proved here; no conditions.
-/
import Derived.Test.YtjfchihkhpinmaaGreatDoorEngO
namespace Go.Proofs.YtjfchihkhpinmaaGreatDoor
open Go.RowKit
set_option linter.unusedVariables false
set_option linter.unusedSimpArgs false

theorem St.adopt {P:Program}{G Gc:QM}{H:Heap}{Z Zc:Nat→Prop}{w w1:World}(st:St P G H Z w1) (sp:Step Gc Zc w G Z w1){i:Nat}(hd:H i=(0,none)){cs:List AV}{loc:Option (Nat × Nat)}
  (hl:match loc with|none=>cs = []|some (g,o)=>w.heap.size≤g∧g<w1.heap.size∧¬ Z g∧¬ Qb G g∧∃ (arr:Array Value) (e:TypeId),w1.heap[g]? = some (.cells arr e (0,0))∧CellsR (RepA G Z w1) arr o cs∧QAP arr) :
  St P (upd G i (1,some loc)) (upd H i (1,some (.cells cs))) Z w1∧Step Gc Zc w (upd G i (1,some loc)) Z w1∧Keep G Z w1 (upd G i (1,some loc)) Z w1:=by
 have hgi:(G i).1=0:=by rw[st.ver,hd]
 have hgn:(G i).2=none:=st.dead i (by rw[hd])
 have hg:∀ id',id'≠i→upd G i (1,some loc) id'=G id':=fun id' hne=>QL _ _ _ _ hne
 have hk:Keep G Z w1 (upd G i (1,some loc)) Z w1:=by
  refine⟨fun b hb=>⟨hb,rfl⟩,fun id=> ?_,fun id e=> ?_,fun b arr e fz _ h=>⟨arr,e,fz,h,rfl⟩⟩
  ·by_cases e:id=i
   ·subst e;rw[upd_same,hgi];exact Nat.zero_le _
   ·rw[hg _ e];exact Nat.le_refl _
  ·by_cases e':id=i
   ·subst e';rw[upd_same,hgi]at e;cases e
   ·rw[hg _ e'];exact .inr rfl
 have hloc:∀ id g o,(upd G i (1,some loc) id).2=some (some (g,o))→(id=i∧loc=some (g,o))∨(id≠i∧(G id).2=some (some (g,o))):=by
  intro id g o h
  by_cases e:id=i
  ·subst e;rw[upd_same]at h;exact .inl ⟨rfl,Option.some.inj h⟩
  ·rw[hg _ e]at h;exact .inr ⟨e,h⟩
 refine⟨⟨fun id=> ?_,fun id h=> ?_,fun id o h=> ?_,fun i1 i2 g o1 o2 h1 h2=> ?_,fun id g o h=> ?_,st.zlt,fun id g o h=> ?_,fun id g o h=> ?_⟩,⟨⟨sp.zin,fun id=> ?_,fun id e=> ?_,fun b arr e fz hl' hh=>sp.room b arr e fz hl' hh⟩,sp.os,sp.tape,sp.output,sp.size,sp.old,sp.zout,fun b hb=> ?_⟩,hk⟩
 ·by_cases e:id=i
  ·subst e;rw[upd_same,upd_same]
  ·rw[hg _ e,QL _ _ _ _ e];exact st.ver id
 ·by_cases e:id=i
  ·subst e;rw[upd_same]at h;cases h
  ·rw[hg _ e];rw[QL _ _ _ _ e]at h;exact st.dead id h
 ·by_cases e:id=i
  ·subst e
   rw[upd_same]at h ⊢
   obtain rfl:=Option.some.inj h
   refine⟨loc,rfl,?_⟩
   cases loc with
   | none=>exact hl
   | some p=>
    obtain⟨g,o⟩:=p
    obtain⟨_,_,_,_,arr,e,h1,h2,_⟩:=hl
    exact⟨arr,e,h1,h2.mono fun a v hr=>hr.keep hk⟩
  ·rw[hg _ e];rw[QL _ _ _ _ e]at h
   obtain⟨loc',h1,h2⟩:=st.obj id o h
   refine⟨loc',h1,?_⟩
   cases loc' with
   | none=>cases o<;>exact h2
   | some p=>
    obtain⟨g,ob⟩:=p
    cases o with
    | cells cs'=>
     obtain⟨arr,e,h3,h4⟩:=h2
     exact⟨arr,e,h3,h4.mono fun a v hr=>hr.keep hk⟩
    | ty cs' tt=>
     obtain⟨h00,arr,h3,h4⟩:=h2
     exact⟨h00,arr,h3,h4.mono fun a v hr=>hr.keep hk⟩
    | _=>exact h2
 ·rcases hloc _ _ _ h1 with⟨e1,g1⟩|⟨e1,g1⟩<;>rcases hloc _ _ _ h2 with⟨e2,g2⟩|⟨e2,g2⟩
  ·rw[e1,e2]
  ·subst g1;exact absurd ⟨i2,o2,g2⟩ hl.2.2.2.1
  ·subst g2;exact absurd ⟨i1,o1,g1⟩ hl.2.2.2.1
  ·exact st.inj _ _ _ _ _ g1 g2
 ·rcases hloc _ _ _ h with⟨e1,g1⟩|⟨e1,g1⟩
  ·subst g1;exact hl.2.2.1
  ·exact st.disj _ _ _ g1
 ·rcases hloc _ _ _ h with⟨e1,g1⟩|⟨e1,g1⟩
  ·subst g1;exact hl.2.1
  ·exact st.glt _ _ _ g1
 ·rcases hloc _ _ _ h with⟨e1,g1⟩|⟨e1,g1⟩
  ·subst g1
   obtain⟨_,_,_,_,arr,e,h1,_,h2⟩:=hl
   intro arr' e' fz' h3
   rw[h1]at h3
   simp only[Option.some.injEq,Obj.cells.injEq]at h3
   rw[← h3.1];exact h2
  ·exact st.ones _ _ _ g1
 ·by_cases e:id=i
  ·subst e;rw[upd_same]
   have:=sp.ver id
   rw[hgi]at this;omega
  ·rw[hg _ e];exact sp.ver id
 ·by_cases e':id=i
  ·subst e';rw[upd_same]at e
   have:=sp.ver id
   rw[hgi]at this;simp only at e;omega
  ·rw[hg _ e']at e ⊢;exact sp.same id e
 ·obtain⟨id,o,h⟩:=hb
  rcases hloc _ _ _ h with⟨e1,g1⟩|⟨e1,g1⟩
  ·subst g1;exact .inr hl.1
  ·exact sp.live b ⟨id,o,g1⟩

section
variable {P:Program}{Gc G1:QM}{H1:Heap}{Zc Z1 Z2:Nat→Prop}{w w1:World}{t m:Nat}{p:FV→Bool}
structure Back (P:Program) (Gc G1:QM) (H1:Heap) (Zc Z1 Z2:Nat→Prop) (w w1:World) (p:FV→Bool):Prop where
 st1:St P G1 H1 Z1 w1
 new:∀ b,Qb G1 b→w.heap.size≤b
 z2:∀ b,Z2 b→Z1 b
 fv:∀ x v,p x=true→RepF Z1 w1 x v→RepF Z2 w1 x v
 cur:∀ b,Qb Gc b→b<w.heap.size
structure Own (P:Program) (Gc G1:QM) (Zc Z2:Nat→Prop) (w w1:World) (t:Nat) (k m:Nat) (used:List Nat) (G:QM) (H:Heap):Prop where
 st:St P G H Z2 w1
 sp:Step Gc Zc w G Z2 w1
 free:∀ j,k≤j→j<m→H (t+1000*j)=(0,none)
 lv:∀ b,Qb G b→Qb Gc b∨∃ id∈used,∃ o,(G1 id).2=some (some (b,o))
theorem own_c (bk:Back P Gc G1 H1 Zc Z1 Z2 w w1 p){k:Nat}{used:List Nat}{G:QM}{H:Heap}(ow:Own P Gc G1 Zc Z2 w w1 t k m used G H){r:RC}{a:AV}(hr:RcOk H1 r a) (hp:r.all p=true) (hu:∀ id∈idsC [a],id∉used) (hm:YR k r≤m) :
  ∃ G',Own P Gc G1 Zc Z2 w w1 t (YR k r) m (idsC [a]++used) G' (QAl t k r H)∧Keep G Z2 w1 G' Z2 w1∧∀ v,RepA G1 Z1 w1 a v→RepA G' Z2 w1 (putC t k r) v:=by
 cases r with
 | v x=>
  have:a=.f x:=hr
  subst this
  exact⟨G,⟨ow.st,ow.sp,ow.free,fun b hb=>ow.lv b hb⟩,Keep.refl _ _ _,fun v hv=> .f (bk.fv x v hp hv.f_)⟩
 | own sz n cs=>
  have hd:=ow.free k (Nat.le_refl _) (by simp only[YR]at hm;omega)
  have free':∀ x:Nat × Option AObj,∀ j,k+1≤j→j<m→upd H (t+1000*k) x (t+1000*j)=(0,none):=fun x j hj hjm=>by
   rw[QL _ _ _ _ (by omega)];exact ow.free j (by omega) hjm
  rcases hr with⟨rfl,rfl,rfl⟩|⟨id,ver,rfl,hc,hin⟩
  ·obtain⟨s1,s2,s3⟩:=ow.st.adopt ow.sp hd (cs:=[]) (loc:=none) rfl
   refine⟨_,⟨s1,s2,free' _,fun b hb=> ?_⟩,s3,fun v hv=> ?_⟩
   ·obtain⟨id',o,h⟩:=hb
    by_cases e:id'=t+1000*k
    ·subst e;rw[upd_same]at h;cases h
    ·rw[QL _ _ _ _ e]at h
     exact ow.lv b ⟨id',o,h⟩
   ·obtain⟨A,rfl⟩:=hv.nil_
    exact .slCap _ _ _ _ _ none (by simp)
  ·obtain⟨loc,hG1,hob,hH1⟩:=bk.st1.cells hc
   have hnu:id∉used:=hu id (by simp [idsC])
   cases loc with
   | none=>
    have hcs:cs.map AV.f = []:=hob
    obtain⟨s1,s2,s3⟩:=ow.st.adopt ow.sp hd (cs:=cs.map .f) (loc:=none) hcs
    refine⟨_,⟨s1,s2,free' _,fun b hb=> ?_⟩,s3,fun v hv=> ?_⟩
    ·obtain⟨id',o,h⟩:=hb
     by_cases e:id'=t+1000*k
     ·subst e;rw[upd_same]at h;cases h
     ·rw[QL _ _ _ _ e]at h
      exact(ow.lv b ⟨id',o,h⟩).imp (fun h=>h) fun ⟨i2,h2,h3⟩=>⟨i2,by simp [h2],h3⟩
    ·rcases hv.sl_ hG1 with⟨rfl,A,rfl⟩|⟨g,o,c,h,_⟩
     ·exact .slCap _ _ _ _ _ none (by simp)
     ·cases h
   | some q=>
    obtain⟨g,o⟩:=q
    obtain⟨arr,e,hh,hcc⟩:=hob
    have hlv1:Qb G1 g:=⟨id,o,by rw[hG1]⟩
    have hnl : ¬ Qb G g:=fun hl=>by
     rcases ow.lv g hl with h|⟨i2,h2,o2,h3⟩
     ·have:=bk.cur g h;have:=bk.new g hlv1;omega
     ·have:=bk.st1.inj _ _ _ _ _ h3 (by rw[hG1]:(G1 id).2=some (some (g,o)))
      subst this;exact hnu h2
    obtain⟨s1,s2,s3⟩:=ow.st.adopt ow.sp hd (cs:=cs.map .f) (loc:=some (g,o)) ⟨bk.new g hlv1,VK hh,fun hz=>bk.st1.disj id g o (by rw[hG1]) (bk.z2 g hz),hnl,arr,e,hh,fun j x hx=>by
     obtain⟨u,h2,h3,h4⟩:=hcc j x hx
     rw[List.getElem?_map]at hx
     obtain⟨y,hy,rfl⟩:=Option.map_eq_some_iff.1 hx
     exact⟨u,h2,h3,.f (bk.fv y u (List.all_eq_true.1 hp y (List.mem_of_getElem? hy)) h4.f_)⟩,bk.st1.ones id g o (by rw[hG1]) _ _ _ hh⟩
    refine⟨_,⟨s1,s2,free' _,fun b hb=> ?_⟩,s3,fun v hv=> ?_⟩
    ·obtain⟨id',o',h⟩:=hb
     by_cases e:id'=t+1000*k
     ·subst e;rw[upd_same]at h
      simp only[Option.some.injEq,Prod.mk.injEq]at h
      exact .inr ⟨id,by simp [idsC],o,by rw[hG1,h.1]⟩
     ·rw[QL _ _ _ _ e]at h
      exact(ow.lv b ⟨id',o',h⟩).imp (fun h=>h) fun ⟨i2,h2,h3⟩=>⟨i2,by simp [h2],h3⟩
    ·rcases hv.sl_ hG1 with⟨rfl,A,rfl⟩|⟨g',o',c,h,rfl,h3,h4,arr',e',fz',h5,h6⟩
     ·exact .slCap _ _ _ _ _ (some (g,o)) (by simp)
     ·simp only[Option.some.injEq,Prod.mk.injEq]at h
      obtain⟨rfl,rfl⟩:=h
      have:=RepA.slLive (G:=upd G (t+1000*k) (1,some (some (g,o)))) (Z:=Z2) (w:=w1) (t+1000*k) 1 sz 0 n g o c (by simp) h3 h4 ⟨arr',e',fz',h5,h6⟩
      exact this
theorem Oa (k:Nat) (r:RC):k≤YR k r:=by cases r<;>simp [YR]
theorem ZC:∀ (rs:List RC) (k:Nat),k≤Qo k rs
 | [],k=>Nat.le_refl _
 | r::rs,k=>Nat.le_trans (Oa k r) (ZC rs _)
def Qs:Nat→List RS→Nat
 | k,[]=>k
 | k,.c r::rs=>Qs (YR k r) rs
 | k,.agg l::rs=>Qs (Qo k l) rs
theorem YF:∀ (rs:List RS) (k:Nat),k≤Qs k rs
 | [],k=>Nat.le_refl _
 | .c r::rs,k=>Nat.le_trans (Oa k r) (YF rs _)
 | .agg l::rs,k=>Nat.le_trans (ZC l k) (YF rs _)
theorem own_cs (bk:Back P Gc G1 H1 Zc Z1 Z2 w w1 p):∀ (rs:List RC) (l:List AV){k:Nat}{used:List Nat}{G:QM}{H:Heap},Own P Gc G1 Zc Z2 w w1 t k m used G H→YD H1 rs l→rs.all (RC.all p)=true→(idsC l).Nodup→(∀ id∈idsC l,id∉used)→Qo k rs≤m→
  ∃ G' used',Own P Gc G1 Zc Z2 w w1 t (Qo k rs) m used' G' (XN t k rs H)∧(∀ id∈used',id∈idsC l∨id∈used)∧Keep G Z2 w1 G' Z2 w1∧l.length=rs.length∧(Vk t k rs).length=rs.length∧∀ (j:Nat) (a b:AV) (v:Value),l[j]? = some a→(Vk t k rs)[j]? = some b→RepA G1 Z1 w1 a v→RepA G' Z2 w1 b v
 | [],l,k,used,G,H,ow,hr,_,_,_,_=>by
  have:l = []:=hr
  subst this
  exact⟨G,used,ow,fun id h=> .inr h,Keep.refl _ _ _,rfl,rfl,fun j a b v h=>by simp at h⟩
 | r::rs,l,k,used,G,H,ow,hr,hp,hnd,hu,hm=>by
  cases l with
  | nil=>exact hr.elim
  | cons a l=>
   obtain⟨hr1,hr2⟩:=hr
   simp only[List.all_cons,Bool.and_eq_true]at hp
   have hsplit:idsC (a::l)=idsC [a]++idsC l:=by cases a<;>rfl
   rw[hsplit]at hnd hu
   obtain⟨n1,n2,n3⟩:=List.nodup_append.1 hnd
   obtain⟨G',ow',hk,hrep⟩:=own_c bk ow hr1 hp.1 (fun id hid=>hu id (List.mem_append_left _ hid)) (Nat.le_trans (ZC rs _) hm)
   obtain⟨G'',used',ow'',hus,hk',hl1,hl2,hrep'⟩:=own_cs bk rs l ow' hr2 hp.2 n2 (fun id hid hmem=>by
    rcases List.mem_append.1 hmem with h|h
    ·exact n3 id h id hid rfl
    ·exact hu id (List.mem_append_right _ hid) h) hm
   refine⟨G'',used',ow'',fun id hid=> ?_,⟨fun b hb=>⟨hb,rfl⟩,fun id=>Nat.le_trans (hk.ver id) (hk'.ver id),fun id e=> ?_,fun b arr e fz _ h=>⟨arr,e,fz,h,rfl⟩⟩,by simp [hl1],by simp [Vk,hl2],fun j x b v hx hb hv=> ?_⟩
   ·rw[hsplit]
    rcases hus id hid with h|h
    ·exact .inl (List.mem_append_right _ h)
    ·rcases List.mem_append.1 h with h|h
     ·exact .inl (List.mem_append_left _ h)
     ·exact .inr h
   ·have a1:=hk.ver id
    have a2:=hk'.ver id
    rcases hk'.same id (by omega)with h3|h3
    ·exact .inl h3
    ·rcases hk.same id (by omega)with h4|h4
     ·exact .inl (h3.trans h4)
     ·exact .inr (h3.trans h4)
   ·cases j with
    | zero=>
     simp only[Vk,List.getElem?_cons_zero,Option.some.injEq]at hx hb
     subst hx hb
     exact(hrep v hv).keep hk'
    | succ j=>exact hrep' j x b v (by simpa using hx) (by simpa [Vk]using hb) hv
theorem Keep.tr {G G' G'':QM}{Z:Nat→Prop}{w:World}(hk:Keep G Z w G' Z w) (hk':Keep G' Z w G'' Z w):Keep G Z w G'' Z w:=
 ⟨fun b hb=>⟨hb,rfl⟩,fun id=>Nat.le_trans (hk.ver id) (hk'.ver id),fun id e=>by
  have a1:=hk.ver id
  have a2:=hk'.ver id
  rcases hk'.same id (by omega)with h3|h3
  ·exact .inl h3
  ·rcases hk.same id (by omega)with h4|h4
   ·exact .inl (h3.trans h4)
   ·exact .inr (h3.trans h4),fun b arr e fz _ h=>⟨arr,e,fz,h,rfl⟩⟩
theorem own_ss (bk:Back P Gc G1 H1 Zc Z1 Z2 w w1 p):∀ (rs:List RS) (l:List AV){k:Nat}{used:List Nat}{G:QM}{H:Heap},Own P Gc G1 Zc Z2 w w1 t k m used G H→RsOk H1 rs l→rs.all (RS.all p)=true→(idsS l).Nodup→(∀ id∈idsS l,id∉used)→Qs k rs≤m→
  ∃ G' k' used',Own P Gc G1 Zc Z2 w w1 t k' m used' G' (Qz t k rs H)∧Keep G Z2 w1 G' Z2 w1∧l.length=rs.length∧(putS t k rs).length=rs.length∧∀ (j:Nat) (a b:AV) (v:Value),l[j]? = some a→(putS t k rs)[j]? = some b→RepA G1 Z1 w1 a v→RepA G' Z2 w1 b v
 | [],l,k,used,G,H,ow,hr,_,_,_,_=>by
  have:l = []:=hr
  subst this
  exact⟨G,k,used,ow,Keep.refl _ _ _,rfl,rfl,fun j a b v h=>by simp at h⟩
 | .c r::rs,l,k,used,G,H,ow,hr,hp,hnd,hu,hm=>by
  cases l with
  | nil=>exact hr.elim
  | cons a l=>
   obtain⟨hr1,hr2⟩:=hr
   simp only[List.all_cons,Bool.and_eq_true]at hp
   have hna:∀ cs,a≠ .agg cs:=by
    rintro cs rfl
    cases r with
    | v x=>cases hr1
    | own sz n cs=>rcases hr1 with⟨h,_⟩|⟨_,_,h,_⟩<;>cases h
   have hsplit:idsS (a::l)=idsC [a]++idsS l:=by cases a<;>first|rfl|exact absurd rfl (hna _)
   rw[hsplit]at hnd hu
   obtain⟨n1,n2,n3⟩:=List.nodup_append.1 hnd
   obtain⟨G',ow',hk,hrep⟩:=own_c bk ow hr1 hp.1 (fun id hid=>hu id (List.mem_append_left _ hid)) (Nat.le_trans (YF rs _) hm)
   obtain⟨G'',k',used',ow'',hk',hl1,hl2,hrep'⟩:=own_ss bk rs l ow' hr2 hp.2 n2 (fun id hid hmem=>by
    rcases List.mem_append.1 hmem with h|h
    ·exact n3 id h id hid rfl
    ·exact hu id (List.mem_append_right _ hid) h) hm
   refine⟨G'',k',used',ow'',hk.tr hk',by simp [hl1],by simp [putS,hl2],fun j x b v hx hb hv=> ?_⟩
   cases j with
   | zero=>
    simp only[putS,List.getElem?_cons_zero,Option.some.injEq]at hx hb
    subst hx hb
    exact(hrep v hv).keep hk'
   | succ j=>exact hrep' j x b v (by simpa using hx) (by simpa [putS]using hb) hv
 | .agg rc::rs,l,k,used,G,H,ow,hr,hp,hnd,hu,hm=>by
  have⟨cs,l',e,hr1,hr2⟩:∃ cs l',l=.agg cs::l'∧YD H1 rc cs∧RsOk H1 rs l':=by
   cases l with
   | nil=>exact hr.elim
   | cons a l=>
    cases a<;>try exact hr.elim
    exact⟨_,_,rfl,hr.1,hr.2⟩
  subst e
  simp only[List.all_cons,Bool.and_eq_true]at hp
  have hsplit:idsS (.agg cs::l')=idsC cs++idsS l':=rfl
  rw[hsplit]at hnd hu
  obtain⟨n1,n2,n3⟩:=List.nodup_append.1 hnd
  obtain⟨G',used',ow',hus,hk,hc1,hc2,hrep⟩:=own_cs bk rc cs ow hr1 hp.1 n1 (fun id hid=>hu id (List.mem_append_left _ hid)) (Nat.le_trans (YF rs _) hm)
  obtain⟨G'',k',used'',ow'',hk',hl1,hl2,hrep'⟩:=own_ss bk rs l' ow' hr2 hp.2 n2 (fun id hid hmem=>by
   rcases hus id hmem with h|h
   ·exact n3 id h id hid rfl
   ·exact hu id (List.mem_append_right _ hid) h) hm
  refine⟨G'',k',used'',ow'',hk.tr hk',by simp [hl1],by simp [putS,hl2],fun j x b v hx hb hv=> ?_⟩
  cases j with
  | zero=>
   simp only[putS,List.getElem?_cons_zero,Option.some.injEq]at hx hb
   subst hx hb
   obtain⟨us,rfl,g1,g2,g3⟩:=hv.agg_
   refine .agg _ us (by omega) g2 fun j a u ha hu'=> ?_
   have hj:=(List.getElem?_eq_some_iff.1 ha).1
   have hx':cs[j]? = some cs[j]:=List.getElem?_eq_getElem (by omega)
   exact(hrep j _ a u hx' ha (g3 j _ u hx' hu')).keep hk'
  | succ j=>exact hrep' j x b v (by simpa using hx) (by simpa [putS]using hb) hv

theorem WV {f:FuncId}{args args':List AV}{H:Heap}{rs:List RS}(hF:FRet P f args' rs) (Z0:QM→(Nat→Prop)→Nat→Prop) (p:FV→Bool) (hp:rs.all (RS.all p)=true) (hfree:∀ j,j<Qs 0 rs→H (t+1000*j)=(0,none))
  (hargs:∀ G Z w (vs:Array Value),St P G H Z w→vs.size=args.length→(∀ (j:Nat) (a:AV) (v:Value),args[j]? = some a→vs[j]? = some v→RepA G Z w a v)→vs.size=args'.length∧∀ (j:Nat) (a:AV) (v:Value),args'[j]? = some a→vs[j]? = some v→RepA (fun _=>(0,none)) (Z0 G Z) w a v)
  (hz:∀ G (Z:Nat→Prop) w,St P G H Z w→(∀ b,Z b→Z0 G Z b)∧∀ b,Z0 G Z b→Z b∨Qb G b)
  (hfv:∀ G (Z Z1:Nat→Prop) w w1 x v,St P G H Z w→(∀ b,Z1 b→Z0 G Z b∨w.heap.size≤b)→p x=true→RepF Z1 w1 x v→RepF (fun b=>Z1 b∧¬ Qb G b) w1 x v) :
  ACall P f args H (fun r H'=>r=QI (putS t 0 rs)∧H'=Qz t 0 rs H):=by
 refine⟨hF.1,fun G Z w vs st hsz hrep=> ?_⟩
 obtain⟨h1,h2⟩:=hargs G Z w vs st hsz hrep
 obtain⟨z1,z2⟩:=hz G Z w st
 have st0:St P (fun _=>(0,none)) H0 (Z0 G Z) w:=⟨fun _=>rfl,fun _ _=>rfl,fun id o h=>(by cases h),fun _ _ _ _ _ h=>(by cases h),fun _ _ _ h=>(by cases h),⟨fun b hb=>(z2 b hb).elim (fun h=>st.zlt b h) (fun ⟨id,o,h⟩=>st.glt _ _ _ h),st.zlt.kn.mono fun b hb=>⟨z1 b hb,rfl⟩⟩,fun _ _ _ h=>(by cases h),fun _ _ _ h=>(by cases h)⟩
 refine(hF.2 _ (Z0 G Z) w vs st0 h1 h2).mono fun e w1 ⟨v,r,H1,G1,Z1,e1,⟨l,hl,hrs,hnd⟩,st1,hh,hr⟩=> ?_
 have nolive:∀ b,¬ Qb (fun _=>((0,none):Nat × Option (Option (Nat × Nat)))) b:=fun b ⟨_,_,h⟩=>by cases h
 have old:∀ b,b<w.heap.size→w1.heap[b]? = w.heap[b]?:=fun b hb=>hh.old b hb (nolive b)
 have hz1:∀ b,Z1 b→Z0 G Z b∨w.heap.size≤b:=fun b hb=>by
  rcases hh.zout b hb with h|h|h
  ·exact .inl h
  ·exact absurd h (nolive b)
  ·exact .inr h
 have hcur:∀ b,Qb G b→b<w.heap.size:=fun b ⟨id,o,h⟩=>st.glt _ _ _ h
 have hk:Keep G Z w G (fun b=>Z1 b∧¬ Qb G b) w1:=⟨fun b hb=>⟨⟨(hh.zin b (z1 b hb)).1,fun ⟨id,o,h⟩=>st.disj _ _ _ h hb⟩,old b (st.zlt b hb)⟩,fun _=>Nat.le_refl _,fun _ _=> .inr rfl,
  fun b arr e fz hl h=>⟨arr,e,fz,by rw[old b (hcur b hl)];exact h,rfl⟩⟩
 have st2:St P G H (fun b=>Z1 b∧¬ Qb G b) w1:=by
  refine⟨st.ver,st.dead,fun id o h=> ?_,st.inj,fun id g o h hz=>hz.2 ⟨id,o,h⟩,⟨fun b hb=>st1.zlt b hb.1,st.zlt.kn.mono hk.zin⟩,fun id g o h=>Nat.lt_of_lt_of_le (st.glt _ _ _ h) hh.size,fun id g o h=>(st.ones _ _ _ h).same (old g (st.glt _ _ _ h))⟩
  obtain⟨loc,k1,k2⟩:=st.obj id o h
  refine⟨loc,k1,?_⟩
  cases loc with
  | none=>cases o<;>exact k2
  | some q=>
   obtain⟨g,ob⟩:=q
   have hb:=old g (st.glt _ _ _ k1)
   cases o with
   | cells cs=>
    obtain⟨arr,e,k3,k4⟩:=k2
    exact⟨arr,e,hb.trans k3,k4.mono fun a v hr=>hr.keep hk⟩
   | ty cs tt=>
    obtain⟨h00,arr,k3,k4⟩:=k2
    exact⟨h00,arr,(by rw[hb];exact k3),k4.mono fun a v hr=>hr.keep hk⟩
   | _=>
    obtain⟨k3,es,clock,k4,k5⟩:=k2
    exact⟨k3,es,clock,hb.trans k4,k5⟩
 have sp2:Step G Z w G (fun b=>Z1 b∧¬ Qb G b) w1:=⟨hk,hh.os,hh.tape,hh.output,hh.size,fun b hb _=>old b hb,fun b hb=>(hz1 b hb.1).elim (fun h=>(z2 b h).imp (fun h=>h) .inl) (fun h=> .inr (.inr h)),fun b hb=> .inl hb⟩
 have bk:Back P G G1 H1 Z Z1 (fun b=>Z1 b∧¬ Qb G b) w w1 p:=⟨st1,fun b hb=>(hh.live b hb).resolve_left (nolive b),fun b hb=>hb.1,fun x v hx hxv=>hfv G Z Z1 w w1 x v st hz1 hx hxv,hcur⟩
 have ow:Own P G G1 Z (fun b=>Z1 b∧¬ Qb G b) w w1 t 0 (Qs 0 rs) [] G H:=⟨st2,sp2,fun j _ hj=>hfree j hj,fun b hb=> .inl hb⟩
 obtain⟨G',k',used',ow',hk',hl1,hl2,hrep'⟩:=own_ss bk rs l ow hrs hp hnd (fun id _ h=>by cases h) (Nat.le_refl _)
 refine⟨v,_,_,G',_,e1,⟨rfl,rfl⟩,ow'.st,ow'.sp,?_⟩
 rw[hl]at hr
 have hne:∀ {l:List AV}{v:Value},l.length≠1→QI l=.tup l:=by
  intro l _ h
  rcases l with _|⟨a,_|⟨b,l⟩⟩
  ·rfl
  ·exact absurd rfl h
  ·rfl
 by_cases h1:l.length=1
 ·obtain⟨a,rfl⟩:=List.length_eq_one_iff.1 h1
  obtain⟨b,hb⟩:=List.length_eq_one_iff.1 (by rw[hl2,← hl1,h1]:(putS t 0 rs).length=1)
  rw[hb]
  exact hrep' 0 a b v rfl (by rw[hb];rfl) hr
 ·rw[hne (v:=v) h1]at hr
  rw[hne (v:=v) (by rw[hl2,← hl1];exact h1)]
  obtain⟨us,rfl,g1,g3⟩:=hr.tup_
  refine .tup _ us (by omega) fun j b u hb hu=> ?_
  have hj:=(List.getElem?_eq_some_iff.1 hb).1
  have hx':l[j]? = some l[j]:=List.getElem?_eq_getElem (by omega)
  exact hrep' j _ b u hx' hb (g3 j _ u hx' hu)
theorem call_frz {f:FuncId}{args args':List AV}{H:Heap}{rs:List RS}(hF:FRet P f args' rs) (hfree:∀ j,H (t+1000*j)=(0,none)) (hs:SlotsOk H H0 [] args args') (hp:rs.all (RS.all FV.plain)=true):ACall P f args H (fun r H'=>r=QI (putS t 0 rs)∧H'=Qz t 0 rs H):=
 WV hF (fun G Z=>wkZ G H0 [] Z) FV.plain hp (fun j _=>hfree j)
  (fun G Z w vs st hsz hrep=>by
    obtain⟨g1,g2⟩:=SlotsOk.rep st args args' vs.toList hs (by rw[Array.length_toList];exact hsz) (fun j x u hx hu=>hrep j x u hx (by simpa using hu))
    refine⟨by omega,fun j a v ha hv=> ?_⟩
    have:=g2 j a v ha (by simpa using hv)
    have e:wkG G H0 []=fun _=>(0,none):=by funext id;simp [wkG,H0]
    rw[e]at this;exact this)
  (fun G Z w st=>⟨fun b h=> .inl h,fun b h=>h.imp (fun h=>h) fun ⟨id,o,h,_⟩=>⟨id,o,h⟩⟩)
  (fun G Z Z1 w w1 x v st hz hx h=>h.plain hx)
end
def Free (t:Nat) (H:Heap):Prop:=∀ j,H (t+1000*j)=(0,none)
theorem Vx {t:Nat} : Free t H0:=fun _=>rfl
theorem Qa {t i:Nat}{H:Heap}{x:Nat × Option AObj}(hi:decide (i % 1000=t % 1000)=false) (h:Free t H):Free t (upd H i x):=fun j=>by
 have:=of_decide_eq_false hi
 rw[QL _ _ _ _ (by omega)];exact h j
theorem QQ {t:Nat} : ∀ {l:List (Nat × Nat × AObj)},l.all (fun p=> !decide (p.1 % 1000=t % 1000))=true→Free t (mkH l)
 | [],_=>fun _=>rfl
 | (i,v,cs)::l,h=>fun j=>by
  simp only[List.all_cons,Bool.and_eq_true,Bool.not_eq_true',decide_eq_false_iff_not]at h
  rw[mkH_at,lookH_cons,if_neg (by omega)]
  exact QQ h.2 j
theorem put_S {t k:Nat}{r:RC}{rs:List RS} : putS t k (.c r::rs)=putC t k r::putS t (YR k r) rs:=rfl
theorem put_Sn {t k:Nat} : putS t k [] = []:=rfl
theorem put_Sa {t k:Nat}{l:List RC}{rs:List RS} : putS t k (.agg l::rs)=.agg (Vk t k l)::putS t (Qo k l) rs:=rfl
theorem put_Cs {t k:Nat}{r:RC}{rs:List RC} : Vk t k (r::rs)=putC t k r::Vk t (YR k r) rs:=rfl
theorem put_Csn {t k:Nat} : Vk t k [] = []:=rfl
theorem put_v {t k:Nat}{x:FV} : putC t k (.v x)=.f x:=rfl
theorem put_o {t k sz n:Nat}{cs:List FV} : putC t k (.own sz n cs)=.sl (t+1000*k) 1 sz 0 n:=rfl
theorem nx_v {k:Nat}{x:FV} : YR k (.v x)=k:=rfl
theorem nx_o {k sz n:Nat}{cs:List FV} : YR k (.own sz n cs)=k+1:=rfl
theorem nx_s {k:Nat}{r:RC}{rs:List RC} : Qo k (r::rs)=Qo (YR k r) rs:=rfl
theorem nx_n {k:Nat} : Qo k []=k:=rfl
theorem pH_S {t k:Nat}{r:RC}{rs:List RS}{H:Heap} : Qz t k (.c r::rs) H=Qz t (YR k r) rs (QAl t k r H):=rfl
theorem pH_Sa {t k:Nat}{l:List RC}{rs:List RS}{H:Heap} : Qz t k (.agg l::rs) H=Qz t (Qo k l) rs (XN t k l H):=rfl
theorem pH_n {t k:Nat}{H:Heap} : Qz t k [] H=H:=rfl
theorem pH_cs {t k:Nat}{r:RC}{rs:List RC}{H:Heap} : XN t k (r::rs) H=XN t (YR k r) rs (QAl t k r H):=rfl
theorem pH_csn {t k:Nat}{H:Heap} : XN t k [] H=H:=rfl
theorem pH_v {t k:Nat}{x:FV}{H:Heap} : QAl t k (.v x) H=H:=rfl
theorem pH_o {t k sz n:Nat}{cs:List FV}{H:Heap} : QAl t k (.own sz n cs) H=upd H (t+1000*k) (1,some (.cells (cs.map .f))):=rfl
theorem oot_1 {a:AV} : QI [a]=a:=rfl
theorem oot_2 {a b:AV}{l:List AV} : QI (a::b::l)=.tup (a::b::l):=rfl
theorem oot_0:QI []=.tup []:=rfl
mutual
def AV.pure:AV→Bool
 | .any=>true
 | .f _=>true
 | .sl ..=>false
 | .ptr ..=>false
 | .map ..=>false
 | .agg l=>AV.pureL l
 | .tup l=>AV.pureL l
 | .clo _ l=>AV.pureL l
 | .slc ..=>false
def AV.pureL:List AV→Bool
 | []=>true
 | a::l=>a.pure&&AV.pureL l
end
theorem AV.pureL_all:∀ l:List AV,AV.pureL l=l.all AV.pure
 | []=>rfl
 | a::l=>by rw[AV.pureL,AV.pureL_all l];rfl
theorem RepA.pure_ {G G':QM}{Z Z':Nat→Prop}{w w':World}{a:AV}{v:Value}(hz:∀ b,Z b→Z' b∧w'.heap[b]? = w.heap[b]?) (h:RepA G Z w a v):a.pure=true→RepA G' Z' w' a v:=by
 induction h with
 | any v=>exact fun _=> .any v
 | f hf=>exact fun _=> .f (hf.keep hz)
 | agg cells us h1 h2 _ ih=>
  intro hp
  rw[AV.pure,AV.pureL_all]at hp
  exact .agg cells us h1 h2 fun j a u ha hu=>ih j a u ha hu (List.all_eq_true.1 hp a (List.mem_of_getElem? ha))
 | tup cells us h1 _ ih=>
  intro hp
  rw[AV.pure,AV.pureL_all]at hp
  exact .tup cells us h1 fun j a u ha hu=>ih j a u ha hu (List.all_eq_true.1 hp a (List.mem_of_getElem? ha))
 | clo f cells us h1 _ ih=>
  intro hp
  rw[AV.pure,AV.pureL_all]at hp
  exact .clo f cells us h1 fun j a u ha hu=>ih j a u ha hu (List.all_eq_true.1 hp a (List.mem_of_getElem? ha))
 | _=>intro hp;simp [AV.pure]at hp
mutual
inductive LeA:AV→AV→Prop
 | refl (a:AV):LeA a a
 | nil (sz:Nat):LeA (.f .nil) (.f (.fr sz []))
 | agg {l l':List AV} : LeL l l'→LeA (.agg l) (.agg l')
inductive LeL:List AV→List AV→Prop
 | refl (l:List AV):LeL l l
 | cons {a a':AV}{l l':List AV} : LeA a a'→LeL l l'→LeL (a::l) (a'::l')
end
mutual
theorem LeA.rep {G:QM}{Z:Nat→Prop}{w:World} : ∀ {a a':AV}{v:Value},LeA a a'→RepA G Z w a v→RepA G Z w a' v
 | _,_,v,.refl a,h=>h
 | _,_,v,.nil sz,h=>by
  obtain⟨A,rfl⟩:=h.nil_
  exact .f (.frNil _ _ _ (by unfold maxLen;omega))
 | _,_,v,.agg hl,h=>by
  obtain⟨us,rfl,h1,h2,h3⟩:=h.agg_
  obtain⟨g1,g2⟩:=LeL.rep (us:=us) hl h3
  exact .agg _ us (by omega) h2 g2
theorem LeL.rep {G:QM}{Z:Nat→Prop}{w:World} : ∀ {l l':List AV}{us:Array Value},LeL l l'→(∀ (j:Nat) (a:AV) (u:Value),l[j]? = some a→us[j]? = some u→RepA G Z w a u)→l'.length=l.length∧∀ (j:Nat) (a:AV) (u:Value),l'[j]? = some a→us[j]? = some u→RepA G Z w a u
 | _,_,us,.refl l,h=>⟨rfl,h⟩
 | _,_,us,.cons ha hl,h=>by
  obtain⟨g1,g2⟩:=LeL.rep (us:=⟨us.toList.drop 1⟩) hl (fun j a u hx hu=>h (j+1) a u (by simpa using hx) (by simpa [Nat.add_comm]using hu))
  refine⟨by simp [g1],fun j a u hx hu=> ?_⟩
  cases j with
  | zero=>
   simp only[List.getElem?_cons_zero,Option.some.injEq]at hx
   subst hx
   exact LeA.rep ha (h 0 _ u rfl hu)
  | succ j=>exact g2 j a u (by simpa using hx) (by simpa [Nat.add_comm]using hu)
end
theorem LeL.one {l l':List AV}(h:LeL l l'):LeA (QI l) (QI l')∨∃ m m',l=m∧l'=m'∧QI l=.tup l∧QI l'=.tup l':=by
 rcases h with _|⟨ha,hl⟩
 ·exact .inl (.refl _)
 ·rcases hl with _|⟨hb,hl⟩
  ·rename_i l0
   rcases l0 with _|⟨b,l⟩
   ·exact .inl ha
   ·exact .inr ⟨_,_,rfl,rfl,rfl,rfl⟩
  ·exact .inr ⟨_,_,rfl,rfl,rfl,rfl⟩
theorem ACall.le {P:Program}{f:FuncId}{args args':List AV}{H:Heap}{Q:AV→Heap→Prop}(h:ACall P f args' H Q) (hl:LeL args args'):ACall P f args H Q:=
 ⟨h.1,fun G Z w vs st hsz hrep=>by
  obtain⟨g1,g2⟩:=hl.rep hrep
  exact h.2 G Z w vs st (by omega) g2⟩
theorem WZ:∀ (rs:List RS),rs.all (RS.all fun _=>true)=true:=fun rs=>by
 have h1:∀ r:RC,r.all (fun _=>true)=true:=fun r=>by cases r<;>simp [RC.all]
 exact List.all_eq_true.2 fun r _=>by cases r with
  | c r=>exact h1 r
  | agg l=>exact List.all_eq_true.2 fun r _=>h1 r
theorem call_p {P:Program}{t:Nat}{f:FuncId}{args:List AV}{H:Heap}{rs:List RS}(hF:FRet P f args rs) (hp:args.all AV.pure=true) (hfree:∀ j,j<Qs 0 rs→H (t+1000*j)=(0,none)):ACall P f args H (fun r H'=>r=QI (putS t 0 rs)∧H'=Qz t 0 rs H):=
 WV hF (fun _ Z=>Z) (fun _=>true) (WZ rs) hfree
  (fun G Z w vs st hsz hrep=>⟨hsz,fun j a v ha hv=>(hrep j a v ha hv).pure_ (fun b hb=>⟨hb,rfl⟩) (List.all_eq_true.1 hp a (List.mem_of_getElem? ha))⟩) (fun G Z w st=>⟨fun b h=>h,fun b h=> .inl h⟩)
  (fun G Z Z1 w w1 x v st hz _ h=>h.keep fun b hb=>⟨⟨hb,fun hl=>by
    obtain⟨id,o,hl⟩:=hl
    rcases hz b hb with h|h
    ·exact st.disj _ _ _ hl h
    ·have:=st.glt _ _ _ hl;omega⟩,rfl⟩)

theorem St.adopt2 {P:Program}{G:QM}{H:Heap}{Z:Nat→Prop}{w1:World}(st:St P G H Z w1){i:Nat}(hd:H i=(0,none)){cs:List AV}{loc:Option (Nat × Nat)}
  (hl:match loc with|none=>cs = []|some (g,o)=>g<w1.heap.size∧¬ Z g∧¬ Qb G g∧∃ (arr:Array Value) (e:TypeId),w1.heap[g]? = some (.cells arr e (0,0))∧CellsR (RepA G Z w1) arr o cs∧QAP arr) :
  St P (upd G i (1,some loc)) (upd H i (1,some (.cells cs))) Z w1∧Keep G Z w1 (upd G i (1,some loc)) Z w1:=by
 have hgi:(G i).1=0:=by rw[st.ver,hd]
 have hgn:(G i).2=none:=st.dead i (by rw[hd])
 have hg:∀ id',id'≠i→upd G i (1,some loc) id'=G id':=fun id' hne=>QL _ _ _ _ hne
 have hk:Keep G Z w1 (upd G i (1,some loc)) Z w1:=by
  refine⟨fun b hb=>⟨hb,rfl⟩,fun id=> ?_,fun id e=> ?_,fun b arr e fz _ h=>⟨arr,e,fz,h,rfl⟩⟩
  ·by_cases e:id=i
   ·subst e;rw[upd_same,hgi];exact Nat.zero_le _
   ·rw[hg _ e];exact Nat.le_refl _
  ·by_cases e':id=i
   ·subst e';rw[upd_same,hgi]at e;cases e
   ·rw[hg _ e'];exact .inr rfl
 have hloc:∀ id g o,(upd G i (1,some loc) id).2=some (some (g,o))→(id=i∧loc=some (g,o))∨(id≠i∧(G id).2=some (some (g,o))):=by
  intro id g o h
  by_cases e:id=i
  ·subst e;rw[upd_same]at h;exact .inl ⟨rfl,Option.some.inj h⟩
  ·rw[hg _ e]at h;exact .inr ⟨e,h⟩
 refine⟨⟨fun id=> ?_,fun id h=> ?_,fun id o h=> ?_,fun i1 i2 g o1 o2 h1 h2=> ?_,fun id g o h=> ?_,st.zlt,fun id g o h=> ?_,fun id g o h=> ?_⟩,hk⟩
 ·by_cases e:id=i
  ·subst e;rw[upd_same,upd_same]
  ·rw[hg _ e,QL _ _ _ _ e];exact st.ver id
 ·by_cases e:id=i
  ·subst e;rw[upd_same]at h;cases h
  ·rw[hg _ e];rw[QL _ _ _ _ e]at h;exact st.dead id h
 ·by_cases e:id=i
  ·subst e
   rw[upd_same]at h ⊢
   obtain rfl:=Option.some.inj h
   refine⟨loc,rfl,?_⟩
   cases loc with
   | none=>exact hl
   | some p=>
    obtain⟨g,o⟩:=p
    obtain⟨_,_,_,arr,e,h1,h2,_⟩:=hl
    exact⟨arr,e,h1,h2.mono fun a v hr=>hr.keep hk⟩
  ·rw[hg _ e];rw[QL _ _ _ _ e]at h
   obtain⟨loc',h1,h2⟩:=st.obj id o h
   refine⟨loc',h1,?_⟩
   cases loc' with
   | none=>cases o<;>exact h2
   | some p=>
    obtain⟨g,ob⟩:=p
    cases o with
    | cells cs'=>
     obtain⟨arr,e,h3,h4⟩:=h2
     exact⟨arr,e,h3,h4.mono fun a v hr=>hr.keep hk⟩
    | ty cs' tt=>
     obtain⟨h00,arr,h3,h4⟩:=h2
     exact⟨h00,arr,h3,h4.mono fun a v hr=>hr.keep hk⟩
    | _=>exact h2
 ·rcases hloc _ _ _ h1 with⟨e1,g1⟩|⟨e1,g1⟩<;>rcases hloc _ _ _ h2 with⟨e2,g2⟩|⟨e2,g2⟩
  ·rw[e1,e2]
  ·subst g1;exact absurd ⟨i2,o2,g2⟩ hl.2.2.1
  ·subst g2;exact absurd ⟨i1,o1,g1⟩ hl.2.2.1
  ·exact st.inj _ _ _ _ _ g1 g2
 ·rcases hloc _ _ _ h with⟨e1,g1⟩|⟨e1,g1⟩
  ·subst g1;exact hl.2.1
  ·exact st.disj _ _ _ g1
 ·rcases hloc _ _ _ h with⟨e1,g1⟩|⟨e1,g1⟩
  ·subst g1;exact hl.1
  ·exact st.glt _ _ _ g1
 ·rcases hloc _ _ _ h with⟨e1,g1⟩|⟨e1,g1⟩
  ·subst g1
   obtain⟨_,_,_,arr,e,h1,_,h2⟩:=hl
   intro arr' e' fz' h3
   rw[h1]at h3
   simp only[Option.some.injEq,Obj.cells.injEq]at h3
   rw[← h3.1];exact h2
  ·exact st.ones _ _ _ g1

section
variable {P:Program}{GA Gr:QM}{HA:Heap}{ZA ZB:Nat→Prop}{w1:World}{t:Nat}{p:FV→Bool}{Ex:Nat→Prop}
structure QCL (P:Program) (GA:QM) (HA:Heap) (ZA ZB:Nat→Prop) (w1:World) (p:FV→Bool) (Gr:QM) (Ex:Nat→Prop):Prop where
 st1:St P GA HA ZA w1
 z2:∀ b,ZB b→ZA b
 fv:∀ x v,p x=true→RepF ZA w1 x v→RepF ZB w1 x v
 cur:∀ b,Qb Gr b→∀ id o,(GA id).2=some (some (b,o))→Ex id
structure Own2 (P:Program) (GA Gr:QM) (ZB:Nat→Prop) (w1:World) (t:Nat) (k m:Nat) (used:List Nat) (G:QM) (H:Heap):Prop where
 st:St P G H ZB w1
 free:∀ j,k≤j→j<m→H (t+1000*j)=(0,none)
 lv:∀ b,Qb G b→Qb Gr b∨∃ id∈used,∃ o,(GA id).2=some (some (b,o))
def Els (t:Nat) (G G':QM):Prop:=∀ id,(∀ j,id≠t+1000*j)→G' id=G id
theorem Els.refl (G:QM):Els t G G:=fun _ _=>rfl
theorem Els.trans {G G' G'':QM}(h:Els t G G') (h':Els t G' G''):Els t G G'':=fun id hid=>(h' id hid).trans (h id hid)
theorem own2_c (bk:QCL P GA HA ZA ZB w1 p Gr Ex){k m:Nat}{used:List Nat}{G:QM}{H:Heap}(ow:Own2 P GA Gr ZB w1 t k m used G H){r:RC}{a:AV}(hr:RcOk HA r a) (hp:r.all p=true) (hu:∀ id∈idsC [a],id∉used∧¬ Ex id) (hm:YR k r≤m) :
  ∃ G',Own2 P GA Gr ZB w1 t (YR k r) m (idsC [a]++used) G' (QAl t k r H)∧Keep G ZB w1 G' ZB w1∧Els t G G'∧∀ v,RepA GA ZA w1 a v→RepA G' ZB w1 (putC t k r) v:=by
 cases r with
 | v x=>
  have:a=.f x:=hr
  subst this
  exact⟨G,⟨ow.st,ow.free,fun b hb=>ow.lv b hb⟩,Keep.refl _ _ _,Els.refl _,fun v hv=> .f (bk.fv x v hp hv.f_)⟩
 | own sz n cs=>
  have hd:=ow.free k (Nat.le_refl _) (by simp only[YR]at hm;omega)
  have free':∀ x:Nat × Option AObj,∀ j,k+1≤j→j<m→upd H (t+1000*k) x (t+1000*j)=(0,none):=fun x j hj hjm=>by
   rw[QL _ _ _ _ (by omega)];exact ow.free j (by omega) hjm
  have els':∀ x,Els t G (upd G (t+1000*k) x):=fun x id hid=>QL _ _ _ _ (hid k)
  rcases hr with⟨rfl,rfl,rfl⟩|⟨id,ver,rfl,hc,hin⟩
  ·obtain⟨s1,s3⟩:=ow.st.adopt2 hd (cs:=[]) (loc:=none) rfl
   refine⟨_,⟨s1,free' _,fun b hb=> ?_⟩,s3,els' _,fun v hv=> ?_⟩
   ·obtain⟨id',o,h⟩:=hb
    by_cases e:id'=t+1000*k
    ·subst e;rw[upd_same]at h;cases h
    ·rw[QL _ _ _ _ e]at h
     exact ow.lv b ⟨id',o,h⟩
   ·obtain⟨A,rfl⟩:=hv.nil_
    exact .slCap _ _ _ _ _ none (by simp)
  ·obtain⟨loc,hG1,hob,hH1⟩:=bk.st1.cells hc
   obtain⟨hnu,hnx⟩:=hu id (by simp [idsC])
   cases loc with
   | none=>
    have hcs:cs.map AV.f = []:=hob
    obtain⟨s1,s3⟩:=ow.st.adopt2 hd (cs:=cs.map .f) (loc:=none) hcs
    refine⟨_,⟨s1,free' _,fun b hb=> ?_⟩,s3,els' _,fun v hv=> ?_⟩
    ·obtain⟨id',o,h⟩:=hb
     by_cases e:id'=t+1000*k
     ·subst e;rw[upd_same]at h;cases h
     ·rw[QL _ _ _ _ e]at h
      exact(ow.lv b ⟨id',o,h⟩).imp (fun h=>h) fun ⟨i2,h2,h3⟩=>⟨i2,by simp [h2],h3⟩
    ·rcases hv.sl_ hG1 with⟨rfl,A,rfl⟩|⟨g,o,c,h,_⟩
     ·exact .slCap _ _ _ _ _ none (by simp)
     ·cases h
   | some q=>
    obtain⟨g,o⟩:=q
    obtain⟨arr,e,hh,hcc⟩:=hob
    have hnl : ¬ Qb G g:=fun hl=>by
     rcases ow.lv g hl with h|⟨i2,h2,o2,h3⟩
     ·exact hnx (bk.cur g h id o (by rw[hG1]))
     ·have:=bk.st1.inj _ _ _ _ _ h3 (by rw[hG1]:(GA id).2=some (some (g,o)))
      subst this;exact hnu h2
    obtain⟨s1,s3⟩:=ow.st.adopt2 hd (cs:=cs.map .f) (loc:=some (g,o)) ⟨VK hh,fun hz=>bk.st1.disj id g o (by rw[hG1]) (bk.z2 g hz),hnl,arr,e,hh,fun j x hx=>by
     obtain⟨u,h2,h3,h4⟩:=hcc j x hx
     rw[List.getElem?_map]at hx
     obtain⟨y,hy,rfl⟩:=Option.map_eq_some_iff.1 hx
     exact⟨u,h2,h3,.f (bk.fv y u (List.all_eq_true.1 hp y (List.mem_of_getElem? hy)) h4.f_)⟩,bk.st1.ones id g o (by rw[hG1]) _ _ _ hh⟩
    refine⟨_,⟨s1,free' _,fun b hb=> ?_⟩,s3,els' _,fun v hv=> ?_⟩
    ·obtain⟨id',o',h⟩:=hb
     by_cases e:id'=t+1000*k
     ·subst e;rw[upd_same]at h
      simp only[Option.some.injEq,Prod.mk.injEq]at h
      exact .inr ⟨id,by simp [idsC],o,by rw[hG1,h.1]⟩
     ·rw[QL _ _ _ _ e]at h
      exact(ow.lv b ⟨id',o',h⟩).imp (fun h=>h) fun ⟨i2,h2,h3⟩=>⟨i2,by simp [h2],h3⟩
    ·rcases hv.sl_ hG1 with⟨rfl,A,rfl⟩|⟨g',o',c,h,rfl,h3,h4,arr',e',fz',h5,h6⟩
     ·exact .slCap _ _ _ _ _ (some (g,o)) (by simp)
     ·simp only[Option.some.injEq,Prod.mk.injEq]at h
      obtain⟨rfl,rfl⟩:=h
      have:=RepA.slLive (G:=upd G (t+1000*k) (1,some (some (g,o)))) (Z:=ZB) (w:=w1) (t+1000*k) 1 sz 0 n g o c (by simp) h3 h4 ⟨arr',e',fz',h5,h6⟩
      exact this
theorem own2_cs (bk:QCL P GA HA ZA ZB w1 p Gr Ex):∀ (rs:List RC) (l:List AV){k m:Nat}{used:List Nat}{G:QM}{H:Heap},Own2 P GA Gr ZB w1 t k m used G H→YD HA rs l→rs.all (RC.all p)=true→(idsC l).Nodup→(∀ id∈idsC l,id∉used∧¬ Ex id)→Qo k rs≤m→
  ∃ G' used',Own2 P GA Gr ZB w1 t (Qo k rs) m used' G' (XN t k rs H)∧(∀ id∈used',id∈idsC l∨id∈used)∧Keep G ZB w1 G' ZB w1∧Els t G G'∧l.length=rs.length∧(Vk t k rs).length=rs.length∧∀ (j:Nat) (a b:AV) (v:Value),l[j]? = some a→(Vk t k rs)[j]? = some b→RepA GA ZA w1 a v→RepA G' ZB w1 b v
 | [],l,k,m,used,G,H,ow,hr,_,_,_,_=>by
  have:l = []:=hr
  subst this
  exact⟨G,used,ow,fun id h=> .inr h,Keep.refl _ _ _,Els.refl _,rfl,rfl,fun j a b v h=>by simp at h⟩
 | r::rs,l,k,m,used,G,H,ow,hr,hp,hnd,hu,hm=>by
  cases l with
  | nil=>exact hr.elim
  | cons a l=>
   obtain⟨hr1,hr2⟩:=hr
   simp only[List.all_cons,Bool.and_eq_true]at hp
   have hsplit:idsC (a::l)=idsC [a]++idsC l:=by cases a<;>rfl
   rw[hsplit]at hnd hu
   obtain⟨n1,n2,n3⟩:=List.nodup_append.1 hnd
   obtain⟨G',ow',hk,he,hrep⟩:=own2_c bk ow hr1 hp.1 (fun id hid=>hu id (List.mem_append_left _ hid)) (Nat.le_trans (ZC rs _) hm)
   obtain⟨G'',used',ow'',hus,hk',he',hl1,hl2,hrep'⟩:=own2_cs bk rs l ow' hr2 hp.2 n2 (fun id hid=>⟨fun hmem=>by
    rcases List.mem_append.1 hmem with h|h
    ·exact n3 id h id hid rfl
    ·exact(hu id (List.mem_append_right _ hid)).1 h,(hu id (List.mem_append_right _ hid)).2⟩) hm
   refine⟨G'',used',ow'',fun id hid=> ?_,hk.tr hk',he.trans he',by simp [hl1],by simp [Vk,hl2],fun j x b v hx hb hv=> ?_⟩
   ·rw[hsplit]
    rcases hus id hid with h|h
    ·exact .inl (List.mem_append_right _ h)
    ·rcases List.mem_append.1 h with h|h
     ·exact .inl (List.mem_append_left _ h)
     ·exact .inr h
   ·cases j with
    | zero=>
     simp only[Vk,List.getElem?_cons_zero,Option.some.injEq]at hx hb
     subst hx hb
     exact(hrep v hv).keep hk'
    | succ j=>exact hrep' j x b v (by simpa using hx) (by simpa [Vk]using hb) hv
theorem Wi (bk:QCL P GA HA ZA ZB w1 p Gr Ex):∀ (rs:List RS) (l:List AV){k m:Nat}{used:List Nat}{G:QM}{H:Heap},Own2 P GA Gr ZB w1 t k m used G H→RsOk HA rs l→rs.all (RS.all p)=true→(idsS l).Nodup→(∀ id∈idsS l,id∉used∧¬ Ex id)→Qs k rs≤m→
  ∃ G' used',Own2 P GA Gr ZB w1 t (Qs k rs) m used' G' (Qz t k rs H)∧(∀ id∈used',id∈idsS l∨id∈used)∧Keep G ZB w1 G' ZB w1∧Els t G G'∧l.length=rs.length∧(putS t k rs).length=rs.length∧∀ (j:Nat) (a b:AV) (v:Value),l[j]? = some a→(putS t k rs)[j]? = some b→RepA GA ZA w1 a v→RepA G' ZB w1 b v
 | [],l,k,m,used,G,H,ow,hr,_,_,_,_=>by
  have:l = []:=hr
  subst this
  exact⟨G,used,ow,fun id h=> .inr h,Keep.refl _ _ _,Els.refl _,rfl,rfl,fun j a b v h=>by simp at h⟩
 | .c r::rs,l,k,m,used,G,H,ow,hr,hp,hnd,hu,hm=>by
  cases l with
  | nil=>exact hr.elim
  | cons a l=>
   obtain⟨hr1,hr2⟩:=hr
   simp only[List.all_cons,Bool.and_eq_true]at hp
   have hna:∀ cs,a≠ .agg cs:=by
    rintro cs rfl
    cases r with
    | v x=>cases hr1
    | own sz n cs=>rcases hr1 with⟨h,_⟩|⟨_,_,h,_⟩<;>cases h
   have hsplit:idsS (a::l)=idsC [a]++idsS l:=by cases a<;>first|rfl|exact absurd rfl (hna _)
   rw[hsplit]at hnd hu
   obtain⟨n1,n2,n3⟩:=List.nodup_append.1 hnd
   obtain⟨G',ow',hk,he,hrep⟩:=own2_c bk ow hr1 hp.1 (fun id hid=>hu id (List.mem_append_left _ hid)) (Nat.le_trans (YF rs _) hm)
   obtain⟨G'',used',ow'',hus,hk',he',hl1,hl2,hrep'⟩:=Wi bk rs l ow' hr2 hp.2 n2 (fun id hid=>⟨fun hmem=>by
    rcases List.mem_append.1 hmem with h|h
    ·exact n3 id h id hid rfl
    ·exact(hu id (List.mem_append_right _ hid)).1 h,(hu id (List.mem_append_right _ hid)).2⟩) hm
   refine⟨G'',used',ow'',fun id hid=> ?_,hk.tr hk',he.trans he',by simp [hl1],by simp [putS,hl2],fun j x b v hx hb hv=> ?_⟩
   ·rw[hsplit]
    rcases hus id hid with h|h
    ·exact .inl (List.mem_append_right _ h)
    ·rcases List.mem_append.1 h with h|h
     ·exact .inl (List.mem_append_left _ h)
     ·exact .inr h
   ·cases j with
    | zero=>
     simp only[putS,List.getElem?_cons_zero,Option.some.injEq]at hx hb
     subst hx hb
     exact(hrep v hv).keep hk'
    | succ j=>exact hrep' j x b v (by simpa using hx) (by simpa [putS]using hb) hv
 | .agg rc::rs,l,k,m,used,G,H,ow,hr,hp,hnd,hu,hm=>by
  have⟨cs,l',e,hr1,hr2⟩:∃ cs l',l=.agg cs::l'∧YD HA rc cs∧RsOk HA rs l':=by
   cases l with
   | nil=>exact hr.elim
   | cons a l=>
    cases a<;>try exact hr.elim
    exact⟨_,_,rfl,hr.1,hr.2⟩
  subst e
  simp only[List.all_cons,Bool.and_eq_true]at hp
  have hsplit:idsS (.agg cs::l')=idsC cs++idsS l':=rfl
  rw[hsplit]at hnd hu
  obtain⟨n1,n2,n3⟩:=List.nodup_append.1 hnd
  obtain⟨G',used',ow',hus,hk,he,hc1,hc2,hrep⟩:=own2_cs bk rc cs ow hr1 hp.1 n1 (fun id hid=>hu id (List.mem_append_left _ hid)) (Nat.le_trans (YF rs _) hm)
  obtain⟨G'',used'',ow'',hus',hk',he',hl1,hl2,hrep'⟩:=Wi bk rs l' ow' hr2 hp.2 n2 (fun id hid=>⟨fun hmem=>by
   rcases hus id hmem with h|h
   ·exact n3 id h id hid rfl
   ·exact(hu id (List.mem_append_right _ hid)).1 h,(hu id (List.mem_append_right _ hid)).2⟩) hm
  refine⟨G'',used'',ow'',fun id hid=> ?_,hk.tr hk',he.trans he',by simp [hl1],by simp [putS,hl2],fun j x b v hx hb hv=> ?_⟩
  ·rw[hsplit]
   rcases hus' id hid with h|h
   ·exact .inl (List.mem_append_right _ h)
   ·exact(hus id h).imp (fun h=>List.mem_append_left _ h) (fun h=>h)
  ·cases j with
   | zero=>
    simp only[putS,List.getElem?_cons_zero,Option.some.injEq]at hx hb
    subst hx hb
    obtain⟨us,rfl,g1,g2,g3⟩:=hv.agg_
    refine .agg _ us (by omega) g2 fun j a u ha hu'=> ?_
    have hj:=(List.getElem?_eq_some_iff.1 ha).1
    have hx':cs[j]? = some cs[j]:=List.getElem?_eq_getElem (by omega)
    exact(hrep j _ a u hx' ha (g3 j _ u hx' hu')).keep hk'
   | succ j=>exact hrep' j x b v (by simpa using hx) (by simpa [putS]using hb) hv
end

open Go.RowKit
set_option linter.unusedVariables false
set_option linter.unusedSimpArgs false

theorem so_nil {H H':Heap}{nw:List Nat} : SlotsOk H H' nw [] []=True:=by simp [SlotsOk]
theorem so_cons {H H':Heap}{nw:List Nat}{a b:AV}{l l':List AV} : SlotsOk H H' nw (a::l) (b::l')=(SlotOk H H' nw a b∧SlotsOk H H' nw l l'):=by rw[SlotsOk]
theorem so_same {H H':Heap}{nw:List Nat}{l:List FV} : SlotsOk H H' nw (l.map .f) (l.map .f)=True:=by simp [SlotsOk.fs rfl]
def WU:Option AObj→AObj
 | some ob=>ob
 | none=> .cells []
theorem cellsG_some {ob:AObj} : WU (some ob)=ob:=rfl
theorem QK {P:Program}{env:Env}{H:Heap}{S:Type}{R:Env→Heap→Prop}{Λ : Lams}{c:Yl}{k:List It}(n:Nat) (ul ol:List Nat) (M:S→List (Nat × AV)) (HH:S→List (Nat × Nat × AObj)) (inv:S→Prop) (μ : S→Nat) (s0:S) (nw:List Nat) (h0:inv s0)
  (hw:Wk env H nw n (M s0++ul.map fun t=>(t,env.f t)) (HH s0++ol.map fun i=>(i,(H i).1,WU (H i).2)))
  (hr:∀ s,inv s→Ax P R ((fun env' H'=>∃ s',inv s'∧μ s' < μ s∧Wk env' H' [] n (M s'++ul.map fun t=>(t,env.f t)) (HH s'++ol.map fun i=>(i,(H i).1,WU (H i).2)))::Λ) (.code c:: .again::k) (mkE n (M s++ul.map fun t=>(t,env.f t))) (mkH (HH s++ol.map fun i=>(i,(H i).1,WU (H i).2)))) :
  Ax P R Λ (.code (.loop c)::k) env H:=
 ax_loopS n (fun s=>M s++ul.map fun t=>(t,env.f t)) (fun s=>HH s++ol.map fun i=>(i,(H i).1,WU (H i).2)) inv μ s0 nw h0 hw hr
section
variable {go:Lams→List It→Env→Heap→Prop}{Λ : Lams}{a b:Yl}{k:List It}{env:Env}{H:Heap}{d:Option Nat}{l:List LO}{ld:List DO}{op:LOp}{j:Nat}{acc:List Fp}{od:List Nat}
theorem WL {x want:Bool}(h1:x=want→Zu go ((eff op (evA env) (d.getD 0)).exec H) Λ d l k env) (h2:x = !want→go Λ (.ops l::k) (putE env d (.tup [])) H):Xt go (.f (.bool x)) want Λ d op l k env H:=by
 rw[QB3]
 split
 ·exact h1 (by assumption)
 ·exact h2 (by cases x<;>cases want<;>simp_all)
end
section
variable {go:Lams→List It→Env→Heap→Prop}{Λ : Lams}{k:List It}{env:Env}{H:Heap}{d:Option Nat}{ld:List DO}{op:LOp}{j:Nat}{acc:List Fp}{od:List Nat}
theorem WM {x want:Bool}(h1:x=want→Zv go ((eff op (evA env) (d.getD 0)).exec H) (VQ acc od (eff op (evA env) (d.getD 0)).rds (eff op (evA env) (d.getD 0)).wrs) Λ d ld (j+1) (XQ j (eff op (evA env) (d.getD 0)).rds (eff op (evA env) (d.getD 0)).wrs acc) k env)
  (h2:x = !want→go Λ (.dops ld (j+1) acc::k) (putE env d (.tup [])) H):Xu go (.f (.bool x)) want Λ d op od ld j acc k env H:=by
 unfold Xu
 simp only
 split
 ·exact h1 (by assumption)
 ·exact h2 (by cases x<;>cases want<;>simp_all)
end
section
variable {P:Program}{R:Env→Heap→Prop}{Λ : Lams}{k:List It}{env:Env}{H:Heap}{d:Nat}{f:Operand}{args:List Operand}{g:Option (Nat × Bool)}{los:List LO}{dos:List DO}{fid:FuncId}{args':List AV}{rs:List RS}{od:List Nat}{j:Nat}{acc:List Fp}
theorem guardS_splitT {go:Lams→List It→Env→Heap→Prop}{d:Option Nat}{l:List LO}{op:LOp}{x:Bool}(h1:x=true→Zu go ((eff op (evA env) (d.getD 0)).exec H) Λ d l k env) (h2:x=false→go Λ (.ops l::k) (putE env d (.tup [])) H):Xt go (.f (.bool x)) true Λ d op l k env H:=WL h1 h2
theorem guardS_splitF {go:Lams→List It→Env→Heap→Prop}{d:Option Nat}{l:List LO}{op:LOp}{x:Bool}(h1:x=false→Zu go ((eff op (evA env) (d.getD 0)).exec H) Λ d l k env) (h2:x=true→go Λ (.ops l::k) (putE env d (.tup [])) H):Xt go (.f (.bool x)) false Λ d op l k env H:=WL h1 h2
theorem guardD_splitT {go:Lams→List It→Env→Heap→Prop}{d:Option Nat}{ld:List DO}{op:LOp}{x:Bool}(h1:x=true→Zv go ((eff op (evA env) (d.getD 0)).exec H) (VQ acc od (eff op (evA env) (d.getD 0)).rds (eff op (evA env) (d.getD 0)).wrs) Λ d ld (j+1) (XQ j (eff op (evA env) (d.getD 0)).rds (eff op (evA env) (d.getD 0)).wrs acc) k env)
  (h2:x=false→go Λ (.dops ld (j+1) acc::k) (putE env d (.tup [])) H):Xu go (.f (.bool x)) true Λ d op od ld j acc k env H:=WM h1 h2
theorem guardD_splitF {go:Lams→List It→Env→Heap→Prop}{d:Option Nat}{ld:List DO}{op:LOp}{x:Bool}(h1:x=false→Zv go ((eff op (evA env) (d.getD 0)).exec H) (VQ acc od (eff op (evA env) (d.getD 0)).rds (eff op (evA env) (d.getD 0)).wrs) Λ d ld (j+1) (XQ j (eff op (evA env) (d.getD 0)).rds (eff op (evA env) (d.getD 0)).wrs acc) k env)
  (h2:x=true→go Λ (.dops ld (j+1) acc::k) (putE env d (.tup [])) H):Xu go (.f (.bool x)) false Λ d op od ld j acc k env H:=WM h1 h2
theorem condS_splitN {go:Lams→List It→Env→Heap→Prop}{a b:Yl}{x:Bool}(h1:x=false→go Λ (.code a::k) env H) (h2:x=true→go Λ (.code b::k) env H):MN go (.f (.bool (!x))) Λ a b k env H:=by
 cases x
 ·exact h1 rfl
 ·exact h2 rfl
theorem guardS_splitTN {go:Lams→List It→Env→Heap→Prop}{d:Option Nat}{l:List LO}{op:LOp}{x:Bool}(h1:x=false→Zu go ((eff op (evA env) (d.getD 0)).exec H) Λ d l k env) (h2:x=true→go Λ (.ops l::k) (putE env d (.tup [])) H):Xt go (.f (.bool (!x))) true Λ d op l k env H:=guardS_splitT (fun h=>h1 (by simpa using h)) (fun h=>h2 (by simpa using h))
theorem guardS_splitFN {go:Lams→List It→Env→Heap→Prop}{d:Option Nat}{l:List LO}{op:LOp}{x:Bool}(h1:x=true→Zu go ((eff op (evA env) (d.getD 0)).exec H) Λ d l k env) (h2:x=false→go Λ (.ops l::k) (putE env d (.tup [])) H):Xt go (.f (.bool (!x))) false Λ d op l k env H:=guardS_splitF (fun h=>h1 (by simpa using h)) (fun h=>h2 (by simpa using h))
theorem guardD_splitTN {go:Lams→List It→Env→Heap→Prop}{d:Option Nat}{ld:List DO}{op:LOp}{x:Bool}(h1:x=false→Zv go ((eff op (evA env) (d.getD 0)).exec H) (VQ acc od (eff op (evA env) (d.getD 0)).rds (eff op (evA env) (d.getD 0)).wrs) Λ d ld (j+1) (XQ j (eff op (evA env) (d.getD 0)).rds (eff op (evA env) (d.getD 0)).wrs acc) k env)
  (h2:x=true→go Λ (.dops ld (j+1) acc::k) (putE env d (.tup [])) H):Xu go (.f (.bool (!x))) true Λ d op od ld j acc k env H:=guardD_splitT (fun h=>h1 (by simpa using h)) (fun h=>h2 (by simpa using h))
theorem guardD_splitFN {go:Lams→List It→Env→Heap→Prop}{d:Option Nat}{ld:List DO}{op:LOp}{x:Bool}(h1:x=true→Zv go ((eff op (evA env) (d.getD 0)).exec H) (VQ acc od (eff op (evA env) (d.getD 0)).rds (eff op (evA env) (d.getD 0)).wrs) Λ d ld (j+1) (XQ j (eff op (evA env) (d.getD 0)).rds (eff op (evA env) (d.getD 0)).wrs acc) k env)
  (h2:x=false→go Λ (.dops ld (j+1) acc::k) (putE env d (.tup [])) H):Xu go (.f (.bool (!x))) false Λ d op od ld j acc k env H:=guardD_splitF (fun h=>h1 (by simpa using h)) (fun h=>h2 (by simpa using h))
theorem callP0 (hg:gd g env=some false) (h:srun P R 300 Λ (.ops los::k) (putE env (some d) (.tup [])) H):Ax P R Λ (.ops (⟨some d,.call f args,g⟩::los)::k) env H:=
 MC hg (QP 300 _ _ _ _ h)
def Yx:List RC→Bool
 | []=>true
 | .v _::l=>Yx l
 | .own ..::_=>false
def VZ:List RS→Bool
 | []=>true
 | .c (.v _)::l=>VZ l
 | .c (.own ..)::_=>false
 | .agg l::r=>Yx l&&VZ r
theorem MW {t:Nat} : ∀ {l:List RC}{k:Nat},Yx l=true→(Vk t k l).all AV.pure=true
 | [],_,_=>rfl
 | .v _::l,k,h=>by simp only[Vk,putC,List.all_cons,AV.pure,Bool.true_and];exact MW (by simpa [Yx]using h)
 | .own ..::l,k,h=>by simp [Yx]at h
theorem NK {t:Nat} : ∀ {rs:List RS}{k:Nat},VZ rs=true→(putS t k rs).all AV.pure=true
 | [],_,_=>rfl
 | .c (.v _)::l,k,h=>by simp only[putS,putC,List.all_cons,AV.pure,Bool.true_and];exact NK (by simpa [VZ]using h)
 | .c (.own ..)::l,k,h=>by simp [VZ]at h
 | .agg l::r,k,h=>by
  simp only[VZ,Bool.and_eq_true]at h
  simp only[putS,List.all_cons,AV.pure,AV.pureL_all,MW h.1,Bool.true_and];exact NK h.2
theorem QCh {t:Nat}{H1:Heap} : ∀ {rs:List RC}{l:List AV}{k:Nat},YD H1 rs l→Yx rs=true→l=Vk t k rs
 | [],l,_,h,_=>h
 | .v x::rs,l,k,h,hp=>by
  cases l with
  | nil=>exact h.elim
  | cons a l=>
   obtain⟨h1,h2⟩:=h
   have h1:a=.f x:=h1
   rw[h1,Vk,putC,QCh h2 (by simpa [Yx]using hp)]
 | .own ..::rs,l,k,h,hp=>by simp [Yx]at hp
theorem OR {t:Nat}{H1:Heap} : ∀ {rs:List RS}{l:List AV}{k:Nat},RsOk H1 rs l→VZ rs=true→l=putS t k rs
 | [],l,_,h,_=>h
 | .c (.v x)::rs,l,k,h,hp=>by
  cases l with
  | nil=>exact h.elim
  | cons a l=>
   obtain⟨h1,h2⟩:=h
   have h1:a=.f x:=h1
   rw[h1,putS,putC,OR h2 (by simpa [VZ]using hp)]
 | .c (.own ..)::rs,l,k,h,hp=>by simp [VZ]at hp
 | .agg rc::rs,l,k,h,hp=>by
  have⟨cs,l',e,hr1,hr2⟩:∃ cs l',l=.agg cs::l'∧YD H1 rc cs∧RsOk H1 rs l':=by
   cases l with
   | nil=>exact h.elim
   | cons a l=>
    cases a<;>try exact h.elim
    exact⟨_,_,rfl,h.1,h.2⟩
  simp only[VZ,Bool.and_eq_true]at hp
  rw[e,putS,QCh (t:=t) (k:=k) hr1 hp.1,OR (t:=t) hr2 hp.2]
theorem QDo {t:Nat}{f:FuncId}{args:List AV}(hF:FRet P f args rs) (hp:args.all AV.pure=true) (hpl:VZ rs=true):ACall P f args H (fun r H'=>r=QI (putS t 0 rs)∧H'=H):=by
 refine⟨hF.1,fun G Z w vs st hsz hrep=> ?_⟩
 have nolive:∀ b,¬ Qb (fun _=>((0,none):Nat × Option (Option (Nat × Nat)))) b:=fun b ⟨_,_,h⟩=>by cases h
 have st0:St P (fun _=>(0,none)) H0 Z w:=⟨fun _=>rfl,fun _ _=>rfl,fun id o h=>(by cases h),fun _ _ _ _ _ h=>(by cases h),fun _ _ _ h=>(by cases h),st.zlt,fun _ _ _ h=>(by cases h),fun _ _ _ h=>(by cases h)⟩
 refine(hF.2 _ Z w vs st0 hsz fun j a v ha hv=>(hrep j a v ha hv).pure_ (fun b hb=>⟨hb,rfl⟩) (List.all_eq_true.1 hp a (List.mem_of_getElem? ha))).mono fun e w1 ⟨v,r,H1,G1,Z1,e1,⟨l,hl,hrs,_⟩,st1,hh,hr⟩=> ?_
 have old:∀ b,b<w.heap.size→w1.heap[b]? = w.heap[b]?:=fun b hb=>hh.old b hb (nolive b)
 have hz1:∀ b,Z1 b→Z b∨w.heap.size≤b:=fun b hb=>by
  rcases hh.zout b hb with h|h|h
  ·exact .inl h
  ·exact absurd h (nolive b)
  ·exact .inr h
 have hz2:∀ b,Z1 b→¬ Qb G b:=fun b hb ⟨id,o,hl⟩=>by
  rcases hz1 b hb with h|h
  ·exact st.disj _ _ _ hl h
  ·have:=st.glt _ _ _ hl;omega
 have hk:Keep G Z w G Z1 w1:=⟨fun b hb=>⟨(hh.zin b hb).1,old b (st.zlt b hb)⟩,fun _=>Nat.le_refl _,fun _ _=> .inr rfl,
  fun b arr e fz ⟨id,o,hl⟩ h=>⟨arr,e,fz,by rw[old b (st.glt _ _ _ hl)];exact h,rfl⟩⟩
 refine⟨v,_,H,G,Z1,e1,⟨rfl,rfl⟩,⟨st.ver,st.dead,fun id o h=> ?_,st.inj,fun id g o h hz=>hz2 g hz ⟨id,o,h⟩,st1.zlt,fun id g o h=>Nat.lt_of_lt_of_le (st.glt _ _ _ h) hh.size,fun id g o h=>(st.ones _ _ _ h).same (old g (st.glt _ _ _ h))⟩,⟨hk,hh.os,hh.tape,hh.output,hh.size,fun b hb _=>old b hb,fun b hb=>(hz1 b hb).imp (fun h=>h) .inr,fun b hb=> .inl hb⟩,?_⟩
 ·obtain⟨loc,k1,k2⟩:=st.obj id o h
  refine⟨loc,k1,?_⟩
  cases loc with
  | none=>cases o<;>exact k2
  | some q=>
   obtain⟨g,ob⟩:=q
   have hb:=old g (st.glt _ _ _ k1)
   cases o with
   | cells cs=>
    obtain⟨arr,e,k3,k4⟩:=k2
    exact⟨arr,e,hb.trans k3,k4.mono fun a v hr=>hr.keep hk⟩
   | ty cs tt=>
    obtain⟨h00,arr,k3,k4⟩:=k2
    exact⟨h00,arr,(by rw[hb];exact k3),k4.mono fun a v hr=>hr.keep hk⟩
   | _=>
    obtain⟨k3,es,clock,k4,k5⟩:=k2
    exact⟨k3,es,clock,hb.trans k4,k5⟩
 ·rw[OR (t:=t) (k:=0) hrs hpl]at hl
  rw[hl]at hr
  refine hr.pure_ (fun b hb=>⟨hb,rfl⟩) ?_
  have h1:=NK (t:=t) (k:=0) hpl
  generalize putS t 0 rs=m at h1
  rcases m with _|⟨a,_|⟨b,m⟩⟩
  ·rfl
  ·simpa [QI]using h1
  ·simp only[QI,AV.pure,AV.pureL_all];exact h1
theorem callD (hg:gd g env=some true) (hF:FRet P fid args' rs) (hfn:evA env f=.f (.fn (.func fid))) (ha:LeL (args.map (evA env)) args') (hp:args'.all AV.pure=true) (hpl:VZ rs=true)
  (h:srun P R 300 Λ (.dops dos (j+1) acc::k) (putE env (some d) (QI (putS d 0 rs))) H):Ax P R Λ (.dops (⟨some d,.call f args,g,od⟩::dos) j acc::k) env H:=
 WY (f:=f) (args:=args) (rd:=[]) (wr:=[]) (v:=QI (putS d 0 rs)) (H':=H) rfl hg (fun _ _=>rfl) (fun H2 _ _=>by
  rw[hfn]
  exact ACall.mono ((QDo (t:=d) hF hp hpl).le ha) fun r H' ⟨h1,h2⟩=>⟨h1,by rw[h2];funext id;simp [mix]⟩) (by simp [VQ,Fp.ok,disj]) (QP 300 _ _ _ _ h)
theorem callD0 (hg:gd g env=some false) (h:srun P R 300 Λ (.dops dos (j+1) acc::k) (putE env (some d) (.tup [])) H):Ax P R Λ (.dops (⟨some d,.call f args,g,od⟩::dos) j acc::k) env H:=
 QAL hg (QP 300 _ _ _ _ h)
theorem VO {x:FV}{H:Heap} : Rets [.c (.v x)] (.f x) H:=⟨[_],rfl,⟨rfl,rfl⟩,List.nodup_nil⟩
theorem QC4 {t:Nat}{H:Heap} : ∀ {rs:List RC}{k:Nat},Yx rs=true→YD H rs (Vk t k rs)∧idsC (Vk t k rs) = []
 | [],_,_=>⟨rfl,rfl⟩
 | .v x::rs,k,h=>by
  obtain⟨h1,h2⟩:=QC4 (t:=t) (H:=H) (k:=YR k (.v x)) (rs:=rs) (by simpa [Yx]using h)
  exact⟨⟨rfl,h1⟩,by simp only[Vk,putC,idsC];exact h2⟩
 | .own ..::rs,k,h=>by simp [Yx]at h
theorem OA {t:Nat}{H:Heap} : ∀ {rs:List RS}{k:Nat},VZ rs=true→RsOk H rs (putS t k rs)∧idsS (putS t k rs) = []
 | [],_,_=>⟨rfl,rfl⟩
 | .c (.v x)::rs,k,h=>by
  obtain⟨h1,h2⟩:=OA (t:=t) (H:=H) (k:=YR k (.v x)) (rs:=rs) (by simpa [VZ]using h)
  exact⟨⟨rfl,h1⟩,by simp only[putS,putC,idsS];exact h2⟩
 | .c (.own ..)::rs,k,h=>by simp [VZ]at h
 | .agg l::rs,k,h=>by
  simp only[VZ,Bool.and_eq_true]at h
  obtain⟨h1,h2⟩:=QC4 (t:=t) (H:=H) (k:=k) h.1
  obtain⟨h3,h4⟩:=OA (t:=t) (H:=H) (k:=Qo k l) h.2
  exact⟨⟨h1,h3⟩,by simp only[putS,idsS,h2,h4,List.nil_append]⟩
theorem Xp {x y:FV}{H:Heap}(h:y=x):Rets [.c (.v x)] (.f y) H:=by subst h;exact VO
theorem NI {x y:FV}{H:Heap} : Rets [.c (.v x),.c (.v y)] (.tup [.f x,.f y]) H:=⟨[_,_],rfl,⟨rfl,rfl,rfl⟩,List.nodup_nil⟩
end
def XB (f:Nat→Int):Nat→Nat→Int
 | _,0=>0
 | i,n+1=>if f i=0 then XB f (i+1) n else f i
theorem fe_go (f:Nat→Int):∀ (n i j:Nat),i≤j→j≤i+n→(∀ m,i≤m→m<j→f m=0)→XB f i n=XB f j (i+n - j)
 | 0,i,j,h1,h2,h=>by rw[show i+0 - j=0 by omega];rfl
 | n+1,i,j,h1,h2,h=>by
  rcases Nat.eq_or_lt_of_le h1 with rfl|hlt
  ·rw[show i+(n+1) - i=n+1 by omega]
  ·rw[XB,if_pos (h i (Nat.le_refl _) hlt),fe_go f n (i+1) j hlt (by omega) (fun m h3 h4=>h m (by omega) h4),show i+1+n - j=i+(n+1) - j by omega]
theorem UL {f:Nat→Int}{n i:Nat}(h:∀ m,m<i→f m=0) (hi:i<n) (hf:f i≠0):XB f 0 n=f i:=by
 rw[fe_go f n 0 i (Nat.zero_le _) (by omega) (fun m _ hm=>h m hm),show 0+n - i=(n - i - 1)+1 by omega,XB,if_neg hf]
theorem QAC {f:Nat→Int}{n:Nat}(h:∀ m,m<n→f m=0):XB f 0 n=0:=by
 rw[fe_go f n 0 n (Nat.zero_le _) (by omega) (fun m _ hm=>h m hm),Nat.zero_add,Nat.sub_self];rfl
theorem fe_zero {f:Nat→Int}{n:Nat}(h:XB f 0 n=0):∀ m,m<n→f m=0:=by
 intro m
 induction m using Nat.strongRecOn with
 | _ m ih=>
  intro hm
  apply Classical.byContradiction
  intro hf
  rw[UL (fun j hj=>ih j hj (by omega)) hm hf]at h
  exact hf h
theorem QB6 {f:Nat→Int}{i:Nat}(h:∀ m,m<i→f m=0) (hf:f i=0):∀ m,m<i+1→f m=0:=fun m hm=>by
 rcases Nat.lt_succ_iff_lt_or_eq.1 hm with h1|rfl
 ·exact h m h1
 ·exact hf
theorem fe_0 {f:Nat→Int} : ∀ m,m<0→f m=0:=fun m hm=>absurd hm (by omega)
theorem XU {i n:Nat}(h:i<n) (hn:(n:Int)≤9223372036854775807):IntKind.i64.wrap ((i:Int)+1)=((i+1:Nat):Int):=by rw[QR]<;>omega
theorem dec64 {i n:Nat}(h0:0<i) (h:i<n) (hn:(n:Int)≤9223372036854775807):IntKind.i64.wrap ((i:Int) - 1)=((i - 1:Nat):Int):=by rw[QR]<;>omega
theorem dec64' {i n:Nat}(h:i<n) (hn:(n:Int)≤9223372036854775807) (h0:decide ((0:Int)<(i:Int))=true):IntKind.i64.wrap ((i:Int) - 1)=((i - 1:Nat):Int):=dec64 (by simpa using h0) h hn
def Zt {α : Type}(l:List α) (i:Nat) (f : α→Int):Int:=if i=0 then 0 else match l[i - 1]? with
 | some e=>f e
 | none=>0
theorem QBu {α : Type}{l:List α}{i:Nat}{d : α}(h:l[i]? = some d):∃ y,(decide ((0:Int)<(i:Int))=true→l[i - 1]? = some y)∧∀ f : α→Int,Zt l i f=if decide ((0:Int)<(i:Int))=true then f y else 0:=by
 rcases Nat.eq_zero_or_pos i with rfl|h0
 ·exact⟨d,fun h=>by simp at h,fun f=>by simp [Zt]⟩
 ·have hlt:=(List.getElem?_eq_some_iff.1 h).1
  have h1:l[i - 1]? = some l[i - 1]:=List.getElem?_eq_getElem (by omega)
  refine⟨l[i - 1],fun _=>h1,fun f=> ?_⟩
  rw[Zt,if_neg (by omega),h1,if_pos (by simpa using h0)]
theorem QH {α : Type}{l:List α}{i:Nat}(h:i<l.length):∃ x,l[i]? = some x:=⟨_,List.getElem?_eq_getElem h⟩
theorem lt_t {i n:Nat}(h:i<n):decide (i<n)=true:=by simpa using h
theorem lt_f {i n:Nat}(h:n≤i):decide (i<n)=false:=by simpa using h

open Go.RowKit
set_option linter.unusedVariables false
set_option linter.unusedSimpArgs false

theorem Jo {P:Program}{f:FuncId}{args:List AV}{x:FV}(hc:Jt P f=true)
  (h:∀ (G:QM) (Z:Nat→Prop) (w:World) (vs:Array Value),vs.size=args.length→(∀ (j:Nat) (a:AV) (v:Value),args[j]? = some a→vs[j]? = some v→RepA G Z w a v)→Calls P f vs w fun e w'=>∃ v,e=.returned v∧(∀ Z':Nat→Prop,RepF Z' w' x v)∧Below w.heap.size w w'):FRet P f args [.c (.v x)]:=by
 refine⟨hc,fun G Z w vs st hs hrep=> ?_⟩
 refine(h G Z w vs hs hrep).mono fun e w' ⟨v,he,hv,hb⟩=> ?_
 have nl:∀ bk,¬ Qb G bk:=fun bk ⟨id,o,hl⟩=>by
  have:=st.dead id rfl
  rw[this]at hl;cases hl
 have hz:∀ bk,Z bk→w'.heap[bk]? = w.heap[bk]?:=fun bk hk=>hb.block bk (st.zlt bk hk)
 exact⟨_,.f x,H0,G,Z,he,⟨[_],rfl,⟨rfl,rfl⟩,List.nodup_nil⟩,⟨st.ver,st.dead,fun id o h=>(by cases h),st.inj,st.disj,⟨fun bk hk=>Nat.lt_of_lt_of_le (st.zlt bk hk) hb.size,st.zlt.kn.mono fun bk hk=>⟨hk,hz bk hk⟩⟩,fun id g o hl=>absurd ⟨id,o,hl⟩ (nl g),fun id g o hl=>absurd ⟨id,o,hl⟩ (nl g)⟩,
  ⟨hb.os,hb.tape,hb.output,hb.size,fun bk hk _=>hb.block bk hk,fun bk hk=>⟨hk,hz bk hk⟩,fun bk hk=> .inl hk,fun bk hl=> .inl hl,fun bk arr e fz hl _=>absurd hl (nl bk),fun _ _=>Nat.le_refl _,fun _ _ _=> .inr rfl⟩,.f (hv _)⟩
theorem args2 {G:QM}{Z:Nat→Prop}{w:World}{a b:FV}{vs:Array Value}(hs:vs.size = [AV.f a,AV.f b].length) (h:∀ (j:Nat) (x:AV) (v:Value),[AV.f a,AV.f b][j]? = some x→vs[j]? = some v→RepA G Z w x v) :
  ∃ v0 v1,vs = #[v0,v1]∧RepF Z w a v0∧RepF Z w b v1:=by
 obtain⟨l⟩:=vs
 rcases l with _|⟨v0,_|⟨v1,_|⟨v2,l⟩⟩⟩<;>simp at hs
 exact⟨v0,v1,rfl,(h 0 _ v0 rfl rfl).f_,(h 1 _ v1 rfl rfl).f_⟩
theorem RepF.str_ {Z:Nat→Prop}{w:World}{s:ByteArray}{v:Value}(h:RepF Z w (.str s) v):v=.string s:=by cases h;rfl
theorem callF {P:Program}{R:Env→Heap→Prop}{Λ : Lams}{k:List It}{env:Env}{H:Heap}{d:Nat}{f:Operand}{args:List Operand}{g:Option (Nat × Bool)}{los:List LO}{fid:FuncId}{args':List AV}{rs:List RS}(hg:gd g env=some true) (hF:FRet P fid args' rs) (hfn:evA env f=.f (.fn (.func fid))) (hs:SlotsOk H H0 [] (args.map (evA env)) args') (hp:rs.all (RS.all FV.plain)=true) (hfree:Free d H)
  (h:srun P R 300 Λ (.ops los::k) (putE env (some d) (QI (putS d 0 rs))) (Qz d 0 rs H)):Ax P R Λ (.ops (⟨some d,.call f args,g⟩::los)::k) env H:=
 Ys (f:=f) (args:=args) rfl hg (Q:=fun r H'=>r=QI (putS d 0 rs)∧H'=Qz d 0 rs H) (by rw[hfn];exact call_frz (t:=d) hF hfree hs hp) fun v H' hq=>by obtain⟨h1,h2⟩:=hq;subst h1 h2;exact QP 300 _ _ _ _ h
theorem so_sl {H H':Heap}{nw:List Nat}{id ver sz n:Nat}{l:List (List FV)}{cs:List FV}(hd:(H' id).2=none) (hc:cellsOf ver (H id)=some (cs.map .f)) (hn:l.length=n) (hsz:∀ x∈l,x.length=sz) (hfl:l.flatten=cs):SlotOk H H' nw (.sl id ver sz 0 n) (.f (.fr sz l)):=by
 have hl:=Qn l hsz
 refine⟨rfl,hn,hsz,hd,_,hc,?_,?_⟩
 ·rw[List.length_map,← hfl,hl,← hn,Nat.zero_add];exact Nat.le_refl _
 ·rw[Nat.zero_mul,List.drop_zero,List.take_of_length_le (by rw[List.length_map,← hfl,hl,← hn];exact Nat.le_refl _),hfl]
theorem so_f {H H':Heap}{nw:List Nat}{x:FV} : SlotOk H H' nw (.f x) (.f x):= .inl rfl
theorem KV {sz n id ver:Nat}{cs:List FV}{H:Heap}(h:cellsOf ver (H id)=some (cs.map .f)) (hl:n*sz≤cs.length):Rets [.c (.own sz n cs)] (.sl id ver sz 0 n) H:=⟨[_],rfl,⟨.inr ⟨_,_,rfl,h,hl⟩,rfl⟩,by simp [idsS]⟩
theorem QAj {sz n:Nat}{cs:List FV}{H:Heap}(hn:n=0) (hc:cs = []):Rets [.c (.own sz n cs)] (.f .nil) H:=⟨[_],rfl,⟨.inl ⟨rfl,hn,hc⟩,rfl⟩,by simp [idsS]⟩
theorem QCf {sz n id ver:Nat}{cs:List FV}{H:Heap}{x y:FV}(h:cellsOf ver (H id)=some (cs.map .f)) (hl:n*sz≤cs.length) (hx:y=x):Rets [.c (.own sz n cs),.c (.v x)] (.tup [.sl id ver sz 0 n,.f y]) H:=by subst hx;exact⟨[_,_],rfl,⟨.inr ⟨_,_,rfl,h,hl⟩,rfl,rfl⟩,by simp [idsS]⟩
end Go.Proofs.YtjfchihkhpinmaaGreatDoor
