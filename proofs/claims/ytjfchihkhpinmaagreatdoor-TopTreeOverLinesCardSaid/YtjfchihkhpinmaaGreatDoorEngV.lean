/-
  The abstract machine: calls that are handed objects of one's own for good. No statement of the seat is proved here; no conditions.
-/
import Derived.Test.YtjfchihkhpinmaaGreatDoorEngS
namespace Go.Proofs.YtjfchihkhpinmaaGreatDoor
open Go.RowKit
set_option linter.unusedVariables false
set_option linter.unusedSimpArgs false

def Xh:List Nat→Heap→Heap
 | [],H=>H
 | i::l,H=>upd (Xh l H) i ((Xh l H i).1,none)
theorem kl_nil {H:Heap} : Xh [] H=H:=rfl
theorem kl_cons {i:Nat}{l:List Nat}{H:Heap} : Xh (i::l) H=upd (Xh l H) i ((Xh l H i).1,none):=rfl
theorem Xg:∀ (l:List Nat) (H:Heap) (id:Nat),Xh l H id=if id∈l then((H id).1,none)else H id
 | [],H,id=>by simp [Xh]
 | i::l,H,id=>by
  rw[Xh]
  by_cases e:id=i
  ·subst e
   rw[upd_same,Xg l H id]
   by_cases h:id∈l<;>simp [h]
  ·rw[QL _ _ _ _ e,Xg l H id]
   simp [e]
def FRetM (P:Program) (f:FuncId) (ri:List RS) (tl:List AV) (rs:List RS):Prop:=FCall P f (putS 80000 0 ri++tl) (Qz 80000 0 ri H0) (Rets rs)

section
variable {P:Program}{t:Nat}
theorem call_m {f:FuncId}{l tl0 tl:List AV}{H:Heap}{ri rs:List RS}(hF:FRetM P f ri tl rs) (hri:RsOk H ri l) (hnd:(idsS l).Nodup) (htl:LeL tl0 tl) (hp:tl.all AV.pure=true) (hfree:∀ j,j<Qs 0 rs→H (t+1000*j)=(0,none)) :
  ACall P f (l++tl0) H (fun r H'=>r=QI (putS t 0 rs)∧H'=Qz t 0 rs (Xh (idsS l) H)):=by
 refine⟨hF.1,fun G Z w vs st hsz hrep=> ?_⟩
 have bk0:QCL P G H Z Z w (fun _=>true) (fun _=>(0,none)) (fun _=>False):=⟨st,fun _ h=>h,fun _ _ _ h=>h,fun b ⟨_,_,h⟩=>by cases h⟩
 have ow0:Own2 P G (fun _=>(0,none)) Z w 80000 0 (Qs 0 ri) [] (fun _=>(0,none)) H0:=
  ⟨⟨fun _=>rfl,fun _ _=>rfl,fun id o h=>(by cases h),fun _ _ _ _ _ h=>(by cases h),fun _ _ _ h=>(by cases h),st.zlt,fun _ _ _ h=>(by cases h),fun _ _ _ h=>(by cases h)⟩,fun _ _ _=>rfl,fun b hb=> .inl hb⟩
 obtain⟨Gc,used,ow,hus,_,_,hl1,hl2,hrep'⟩:=Wi bk0 ri l ow0 hri (WZ ri) hnd (fun id _=>⟨fun h=>(by cases h),fun h=>h⟩) (Nat.le_refl _)
 have hlen:(putS 80000 0 ri).length=l.length:=by rw[hl2,hl1]
 rw[List.length_append]at hsz
 obtain⟨q1,q2⟩:=htl.rep (us:=vs.extract l.length vs.size) (G:=G) (Z:=Z) (w:=w) (fun j a u ha hu=>hrep (l.length+j) a u (by rw[List.getElem?_append_right (by omega)];simpa using ha) (by
  rw[Array.getElem?_extract]at hu
  split at hu
  ·exact hu
  ·cases hu))
 have lvc:∀ b,Qb Gc b→∃ id∈idsS l,∃ o,(G id).2=some (some (b,o)):=fun b hb=>by
  rcases ow.lv b hb with⟨_,_,h⟩|⟨id,h1,h2⟩
  ·cases h
  ·exact⟨id,(hus id h1).resolve_right (fun h=>by cases h),h2⟩
 refine(hF.2 Gc Z w vs ow.st (by rw[List.length_append,hlen,q1];exact hsz) fun j a v ha hv=> ?_).mono fun e w1 ⟨v,r,H1,G1,Z1,e1,⟨l1,hl,hrs,hnd1⟩,st1,hh,hr⟩=> ?_
 ·rcases Nat.lt_or_ge j l.length with hj|hj
  ·rw[List.getElem?_append_left (by omega)]at ha
   exact hrep' j _ a v (List.getElem?_eq_getElem hj) ha (hrep j _ v (by rw[List.getElem?_append_left hj];exact List.getElem?_eq_getElem hj) hv)
  ·rw[List.getElem?_append_right (by omega),hlen]at ha
   refine(q2 (j - l.length) a v ha ?_).pure_ (fun b hb=>⟨hb,rfl⟩) (List.all_eq_true.1 hp a (List.mem_of_getElem? ha))
   have hjs:=(Array.getElem?_eq_some_iff.1 hv).1
   rw[Array.getElem?_extract,if_pos (by omega),show l.length+(j - l.length)=j by omega];exact hv
 have hz1:∀ b,Z1 b→Z b∨Qb Gc b∨w.heap.size≤b:=hh.zout
 let G2:QM:=fun id=>if id∈idsS l then((G id).1,none)else G id
 have g2in:∀ id,id∈idsS l→G2 id=((G id).1,none):=fun id h=>if_pos h
 have g2out:∀ id,id∉idsS l→G2 id=G id:=fun id h=>if_neg h
 have g2l:∀ id g o,(G2 id).2=some (some (g,o))→id∉idsS l∧(G id).2=some (some (g,o)):=fun id g o h=>by
  by_cases e:id∈idsS l
  ·rw[g2in id e]at h;cases h
  ·rw[g2out id e]at h;exact⟨e,h⟩
 have nc:∀ id g o,id∉idsS l→(G id).2=some (some (g,o))→¬ Qb Gc g:=fun id g o h1 h2 hl=>by
  obtain⟨id2,h3,o2,h4⟩:=lvc g hl
  have:=st.inj _ _ _ _ _ h2 h4
  subst this;exact h1 h3
 have hz2:∀ b,Z1 b→¬ Qb G2 b:=fun b hb ⟨id,o,hl⟩=>by
  obtain⟨n1,n2⟩:=g2l _ _ _ hl
  rcases hz1 b hb with h|h|h
  ·exact st.disj _ _ _ n2 h
  ·exact nc _ _ _ n1 n2 h
  ·have:=st.glt _ _ _ n2;omega
 have old:∀ b,b<w.heap.size→¬ Qb Gc b→w1.heap[b]? = w.heap[b]?:=hh.old
 have hk:Keep G Z w G2 Z1 w1:=by
  refine⟨hh.zin,fun id=> ?_,fun id _=> ?_,fun b arr e fz hlb h=> ?_⟩
  ·by_cases e:id∈idsS l
   ·rw[g2in id e];exact Nat.le_refl _
   ·rw[g2out id e];exact Nat.le_refl _
  ·by_cases e:id∈idsS l
   ·rw[g2in id e];exact .inl rfl
   ·rw[g2out id e];exact .inr rfl
  ·by_cases hc:Qb Gc b
   ·exact hh.room b arr e fz hc h
   ·exact⟨arr,e,fz,by rw[old b (VK h) hc];exact h,rfl⟩
 have st2:St P G2 (Xh (idsS l) H) Z1 w1:=by
  refine⟨fun id=> ?_,fun id h=> ?_,fun id o h=> ?_,fun i1 i2 g o1 o2 h1 h2=>st.inj _ _ _ _ _ (g2l _ _ _ h1).2 (g2l _ _ _ h2).2,fun id g o h hz=>hz2 g hz ⟨id,o,h⟩,st1.zlt,fun id g o h=>Nat.lt_of_lt_of_le (st.glt _ _ _ (g2l _ _ _ h).2) hh.size,fun id g o h=> ?_⟩
  ·rw[Xg]
   by_cases e:id∈idsS l
   ·rw[g2in id e,if_pos e];exact st.ver id
   ·rw[g2out id e,if_neg e];exact st.ver id
  ·rw[Xg]at h
   by_cases e:id∈idsS l
   ·rw[g2in id e]
   ·rw[g2out id e];rw[if_neg e]at h;exact st.dead id h
  ·rw[Xg]at h
   by_cases e:id∈idsS l
   ·rw[if_pos e]at h;cases h
   ·rw[if_neg e]at h
    rw[g2out id e]
    obtain⟨loc,k1,k2⟩:=st.obj id o h
    refine⟨loc,k1,?_⟩
    cases loc with
    | none=>cases o<;>exact k2
    | some q=>
     obtain⟨g,ob⟩:=q
     have hb:=old g (st.glt _ _ _ k1) (nc _ _ _ e k1)
     cases o with
     | cells cs=>
      obtain⟨arr,e,k3,k4⟩:=k2
      exact⟨arr,e,hb.trans k3,k4.mono fun a v hr=>hr.keep hk⟩
     | ty cs tt=>
      obtain⟨h00,arr,k3,k4⟩:=k2
      exact⟨h00,arr,(by rw[hb];exact k3),k4.mono fun a v hr=>hr.keep hk⟩
     | _=>
      obtain⟨k3,es,clock,k4,k5⟩:=k2
      exact⟨k3,es,clock,hb.trans k4,k5⟩
  ·obtain⟨n1,n2⟩:=g2l _ _ _ h
   exact(st.ones _ _ _ n2).same (old g (st.glt _ _ _ n2) (nc _ _ _ n1 n2))
 have lv1:∀ b,Qb G1 b→Qb G b∨w.heap.size≤b:=fun b hb=>by
  rcases hh.live b hb with h|h
  ·obtain⟨id,_,o,h2⟩:=lvc b h
   exact .inl ⟨id,o,h2⟩
  ·exact .inr h
 have lv2:∀ b,Qb G2 b→Qb G b:=fun b ⟨id,o,h⟩=>⟨id,o,(g2l _ _ _ h).2⟩
 have bk2:QCL P G1 H1 Z1 Z1 w1 (fun _=>true) G2 (fun _=>False):=⟨st1,fun _ h=>h,fun _ _ _ h=>h,fun b ⟨id,o,h⟩ id' o' h'=>by
  obtain⟨n1,n2⟩:=g2l _ _ _ h
  rcases hh.live b ⟨id',o',h'⟩with h3|h3
  ·exact nc _ _ _ n1 n2 h3
  ·have:=st.glt _ _ _ n2;omega⟩
 have ow2:Own2 P G1 G2 Z1 w1 t 0 (Qs 0 rs) [] G2 (Xh (idsS l) H):=⟨st2,fun j _ hj=>by rw[Xg,hfree j hj];split<;>rfl,fun b hb=> .inl hb⟩
 obtain⟨G',used',ow',hus',hk',_,hl1',hl2',hrep2⟩:=Wi bk2 rs l1 ow2 hrs (WZ rs) hnd1 (fun id _=>⟨fun h=>(by cases h),fun h=>h⟩) (Nat.le_refl _)
 refine⟨v,_,_,G',_,e1,⟨rfl,rfl⟩,ow'.st,?_,?_⟩
 ·refine⟨⟨fun b hb=>hh.zin b hb,fun id=>Nat.le_trans (hk.ver id) (hk'.ver id),fun id e=> ?_,fun b arr e fz hl h=>hk.room b arr e fz hl h⟩,hh.os,hh.tape,hh.output,hh.size,fun b hb hn=>old b hb fun hc=>hn (by
   obtain⟨id,_,o,h2⟩:=lvc b hc
   exact⟨id,o,h2⟩),fun b hb=> ?_,fun b hb=> ?_⟩
  ·have a1:=hk.ver id
   have a2:=hk'.ver id
   rcases hk'.same id (by omega)with h3|h3
   ·exact .inl h3
   ·rcases hk.same id (by omega)with h4|h4
    ·exact .inl (h3.trans h4)
    ·exact .inr (h3.trans h4)
  ·rcases hz1 b hb with h|h|h
   ·exact .inl h
   ·obtain⟨id,_,o,h2⟩:=lvc b h
    exact .inr (.inl ⟨id,o,h2⟩)
   ·exact .inr (.inr h)
  ·rcases ow'.lv b hb with h|⟨id,_,o,h⟩
   ·exact .inl (lv2 b h)
   ·exact lv1 b ⟨id,o,h⟩
 ·rw[hl]at hr
  have hne:∀ {l:List AV},l.length≠1→QI l=.tup l:=by
   intro l h
   rcases l with _|⟨a,_|⟨b,l⟩⟩
   ·rfl
   ·exact absurd rfl h
   ·rfl
  by_cases h1:l1.length=1
  ·obtain⟨a,rfl⟩:=List.length_eq_one_iff.1 h1
   obtain⟨b,hb⟩:=List.length_eq_one_iff.1 (by rw[hl2',← hl1',h1]:(putS t 0 rs).length=1)
   rw[hb]
   exact hrep2 0 a b v rfl (by rw[hb];rfl) hr
  ·rw[hne h1]at hr
   rw[hne (by rw[hl2',← hl1'];exact h1)]
   obtain⟨us,rfl,g1,g3⟩:=hr.tup_
   refine .tup _ us (by omega) fun j b u hb hu=> ?_
   have hj:=(List.getElem?_eq_some_iff.1 hb).1
   have hx':l1[j]? = some l1[j]:=List.getElem?_eq_getElem (by omega)
   exact hrep2 j _ b u hx' hb (g3 j _ u hx' hu)
end
section
variable {P:Program}{R:Env→Heap→Prop}{Λ : Lams}{k:List It}{env:Env}{H:Heap}{d:Nat}{f:Operand}{args:List Operand}{g:Option (Nat × Bool)}{los:List LO}{fid:FuncId}{l tl0 tl:List AV}{ri rs:List RS}
theorem callM (hg:gd g env=some true) (hF:FRetM P fid ri tl rs) (hfn:evA env f=.f (.fn (.func fid))) (l tl0:List AV) (ha:args.map (evA env)=l++tl0) (hri:RsOk H ri l) (hnd:(idsS l).Nodup) (htl:LeL tl0 tl) (hp:tl.all AV.pure=true) (hfree:Free d H)
  (h:srun P R 300 Λ (.ops los::k) (putE env (some d) (QI (putS d 0 rs))) (Qz d 0 rs (Xh (idsS l) H))):Ax P R Λ (.ops (⟨some d,.call f args,g⟩::los)::k) env H:=
 Ys (f:=f) (args:=args) rfl hg (Q:=fun r H'=>r=QI (putS d 0 rs)∧H'=Qz d 0 rs (Xh (idsS l) H)) (by rw[hfn,ha];exact call_m (t:=d) hF hri hnd htl hp (fun j _=>hfree j)) fun v H' hq=>by obtain⟨h1,h2⟩:=hq;subst h1 h2;exact QP 300 _ _ _ _ h
end

def swN (a b id:Nat):Nat:=if id=a then b else if id=b then a else id
theorem QBm (a b id:Nat):swN a b (swN a b id)=id:=by
 unfold swN;split<;>split<;>simp_all
def swT (a b:Nat):Turn:=⟨fun id=> .sl (swN a b id),fun id=> .ptr (swN a b id),fun id=> .map (swN a b id),fun id=> .slc (swN a b id)⟩
def swO (a b:Nat):AObj→AObj
 | .cells cs=> .cells (AV.turnL (swT a b) cs)
 | .map m=> .map m
 | .ty cs t=> .ty (AV.turnL (swT a b) cs) t
def swX (a b:Nat) (x:Nat × Option AObj):Nat × Option AObj:=(x.1,x.2.map (swO a b))
def swE (a b:Nat) (env:Env):Env:=⟨env.n,fun t=>(env.f t).turn (swT a b)⟩
def swH (a b:Nat) (H:Heap):Heap:=fun id=>swX a b (H (swN a b id))
theorem sw_turn (a b:Nat) (G:QM) (Z:Nat→Prop) (w:World):QDH G Z w (fun id=>G (swN a b id)) Z w (swT a b):=
 have e:∀ id,swN a b (swN a b id)=id:=QBm a b
 ⟨fun b hb=>⟨hb,rfl⟩,fun id ver sz off n v hr=>by
  cases hr with
  | slOld _ _ _ _ _ _ h1 h2 h3=>exact .slOld _ _ _ _ _ _ (by simp only[e];exact h1) (by simp only[e];exact h2) h3
  | slCap _ _ _ _ A loc h1=>exact .slCap _ _ _ _ A loc (by simp only[e];exact h1)
  | slLive _ _ _ _ _ g o c h1 h2 h3 h4=>exact .slLive _ _ _ _ _ g o c (by simp only[e];exact h1) h2 h3 h4,fun id ver off v hr=>by
  cases hr with
  | ptrOld _ _ _ _ h1 h2 h3=>exact .ptrOld _ _ _ _ (by simp only[e];exact h1) (by simp only[e];exact h2) h3
  | ptrLive _ _ _ g o h1=>exact .ptrLive _ _ _ g o (by simp only[e];exact h1),fun id ver v hr=>by
  cases hr with
  | mapOld _ _ _ h1 h2 h3=>exact .mapOld _ _ _ (by simp only[e];exact h1) (by simp only[e];exact h2) h3
  | mapLive _ _ g o h1=>exact .mapLive _ _ g o (by simp only[e];exact h1),fun id ver sz off n c v hr=>by
  cases hr with
  | slcOld _ _ _ _ _ _ _ h1 h2 h3=>exact .slcOld _ _ _ _ _ _ _ (by simp only[e];exact h1) (by simp only[e];exact h2) h3
  | slcLive _ _ _ _ _ _ g o h1 h2 h3 h4=>exact .slcLive _ _ _ _ _ _ g o (by simp only[e];exact h1) h2 h3 h4⟩
theorem liveB_sw {a b g:Nat}{G:QM}(h:Qb (fun id=>G (swN a b id)) g):Qb G g:=let ⟨id,o,h⟩:=h;⟨swN a b id,o,h⟩
theorem St.sw {P:Program}{G:QM}{H:Heap}{Z:Nat→Prop}{w:World}(st:St P G H Z w) (a b:Nat):St P (fun id=>G (swN a b id)) (swH a b H) Z w:=by
 have t:=sw_turn a b G Z w
 refine⟨fun id=>st.ver _,fun id h=>st.dead _ ?_,fun id o h=> ?_,fun i1 i2 g o1 o2 h1 h2=> ?_,fun id g o h=>st.disj _ _ _ h,st.zlt,fun id g o h=>st.glt _ _ _ h,fun id g o h=>st.ones _ _ _ h⟩
 ·simpa [swH,swX]using h
 ·obtain⟨o',h1,rfl⟩:=Option.map_eq_some_iff.1 (show((H (swN a b id)).2).map (swO a b)=some o from h)
  obtain⟨loc,h2,h3⟩:=st.obj _ o' h1
  refine⟨loc,h2,?_⟩
  cases loc with
  | none=>
   cases o' with
   | cells cs=>
    have:cs = []:=h3
    subst this;rfl
   | ty cs tt=>
    exact h3.elim
   | _=>exact h3
  | some q=>
   obtain⟨g,ob⟩:=q
   cases o' with
   | cells cs=>
    obtain⟨arr,e,h4,h5⟩:=h3
    refine⟨arr,e,h4,fun j x hx=> ?_⟩
    rw[AV.turnL_eq,List.getElem?_map]at hx
    obtain⟨y,hy,rfl⟩:=Option.map_eq_some_iff.1 hx
    obtain⟨u,h6,h7,h8⟩:=h5 j y hy
    exact⟨u,h6,h7,h8.turn t⟩
   | ty cs tt=>
    obtain⟨h00,arr,h4,h5⟩:=h3
    refine⟨h00,arr,by rw[AV.turnL_eq,List.length_map];exact h4,fun j x hx=> ?_⟩
    rw[AV.turnL_eq,List.getElem?_map]at hx
    obtain⟨y,hy,rfl⟩:=Option.map_eq_some_iff.1 hx
    obtain⟨u,h6,h7,h8⟩:=h5 j y hy
    exact⟨u,h6,h7,h8.turn t⟩
   | _=>exact h3
 ·have:=st.inj _ _ _ _ _ h1 h2
  rw[← QBm a b i1,this,QBm]
theorem Sim.sw {P:Program}{s:At0}{env:Env}{H:Heap}{a:Act}{w:World}(hs:Sim P s env H a w){x y:Nat}(hx:decide (x<100000)=true) (hy:decide (y<100000)=true):Sim P s (swE x y env) (swH x y H) a w:=by
 obtain⟨G,Z,st,hr,hd,hi⟩:=hs
 have hx:=of_decide_eq_true hx
 have hy:=of_decide_eq_true hy
 have e:∀ id,100000≤id→swN x y id=id:=fun id h=>by unfold swN;rw[if_neg (by omega),if_neg (by omega)]
 refine⟨_,Z,st.sw x y,⟨hr.len,fun i hi=> ?_,fun i v hv=>(hr.at_ i v hv).turn (sw_turn x y G Z w)⟩,hd,⟨hi.os,hi.tape,hi.output,hi.size,hi.old,hi.zin,hi.zout,fun b hb=>hi.live b (liveB_sw hb),hi.room,fun id h=> ?_,fun id h=> ?_⟩⟩
 ·show(env.f i).turn _=_
  rw[hr.out i hi];rfl
 ·show _≤(G (swN x y id)).1
  rw[e id h];exact hi.ver id h
 ·show(G (swN x y id)).1=_→(G (swN x y id)).2=none∨(G (swN x y id)).2=_
  rw[e id h];exact hi.same id h
def swsE:List (Nat × Nat)→Env→Env
 | [],env=>env
 | (a,b)::l,env=>swsE l (swE a b env)
def swsH:List (Nat × Nat)→Heap→Heap
 | [],H=>H
 | (a,b)::l,H=>swsH l (swH a b H)
def swOk (l:List (Nat × Nat)):Bool:=l.all fun p=>decide (p.1<100000)&&decide (p.2<100000)
theorem Sim.sws {P:Program}{s:At0}{a:Act}{w:World} : ∀ {l:List (Nat × Nat)}{env:Env}{H:Heap},Sim P s env H a w→swOk l=true→Sim P s (swsE l env) (swsH l H) a w
 | [],_,_,h,_=>h
 | (x,y)::l,env,H,h,hl=>by
  simp only[swOk,List.all_cons,Bool.and_eq_true]at hl
  show Sim P s (swsE l (swE x y env)) (swsH l (swH x y H)) a w
  exact Sim.sws (h.sw hl.1.1 hl.1.2) hl.2
theorem Kx {P:Program}{env:Env}{H:Heap}{R:Env→Heap→Prop}{Λ : Lams}{los:List LO}{k:List It}(sw:List (Nat × Nat)){nw:List Nat}{n:Nat}{el:List (Nat × AV)}{hl:List (Nat × Nat × AObj)}(hs:swOk sw=true) (h:Wk (swsE sw env) (swsH sw H) nw n el hl) (hx:Ax P R Λ (.ops los::k) (mkE n el) (mkH hl)):Ax P R Λ (.ops los::k) env H:=fun s ops l t hl hm a w hsim=>hx s ops l t hl hm a w (h.sim (hsim.sws hs))
theorem QAK {P:Program}{env:Env}{H:Heap}{S:Type}{R:Env→Heap→Prop}{Λ : Lams}{c:Yl}{k:List It}(n:Nat) (ul ol:List Nat) (M:S→List (Nat × AV)) (HH:S→List (Nat × Nat × AObj)) (inv:S→Prop) (μ : S→Nat) (s0:S) (nw:List Nat) (sw0:List (Nat × Nat)) (h0:inv s0)
  (hs0:swOk sw0=true) (hw:Wk (swsE sw0 env) (swsH sw0 H) nw n (M s0++ul.map fun t=>(t,(swsE sw0 env).f t)) (HH s0++ol.map fun i=>(i,(swsH sw0 H i).1,WU (swsH sw0 H i).2)))
  (hr:∀ s,inv s→Ax P R ((fun env' H'=>∃ s' sw,inv s'∧μ s' < μ s∧swOk sw=true∧Wk (swsE sw env') (swsH sw H') [] n (M s'++ul.map fun t=>(t,(swsE sw0 env).f t)) (HH s'++ol.map fun i=>(i,(swsH sw0 H i).1,WU (swsH sw0 H i).2)))::Λ) (.code c:: .again::k) (mkE n (M s++ul.map fun t=>(t,(swsE sw0 env).f t))) (mkH (HH s++ol.map fun i=>(i,(swsH sw0 H i).1,WU (swsH sw0 H i).2)))) :
  Ax P R Λ (.code (.loop c)::k) env H:=fun s t hm a w hs=>by
 cases hm with
 | code hc hm=>
  obtain⟨c1,rfl,h1⟩:=Yc hc
  rename_i t
  have key:∀ m (x:S) a w,μ x=m→inv x→Sim P s (mkE n (M x++ul.map fun t=>(t,(swsE sw0 env).f t))) (mkH (HH x++ol.map fun i=>(i,(swsH sw0 H i).1,WU (swsH sw0 H i).2))) a w→Goal P (Fin P R s) (.code c1:: .inLoop c1::t) a w:=by
   intro m
   induction m using Nat.strongRecOn with
   | _ m ih=>
    intro x a w hm' hI hs
    refine(hr x hI).go (.code h1 (.again (fun env' H' a' w' hL hs'=> ?_) hm)) hs
    obtain⟨x',sw,hI',hlt,hsw,hwk⟩:=hL
    exact Goal.steps (fun b cs=> .one step_inLoop) (ih (μ x') (hm'▸hlt) x' a' w' rfl hI' (hwk.sim (hs'.sws hsw)))
  exact Goal.steps (fun b cs=> .one step_loop) (key _ s0 a w rfl h0 (hw.sim (hs.sws hs0)))
section
variable {a b id ver sz off n:Nat}{τ : Turn}{x:FV}{l:List AV}{xs:List FV}{m:List (ByteArray × Value)}{g:Fn}{y:AV}{env:Env}{H:Heap}{i:Nat}{o:Nat × Option AObj}
theorem tn_any:AV.turn τ .any=.any:=rfl
theorem tn_f:AV.turn τ (.f x)=.f x:=rfl
theorem tn_sl:AV.turn (swT a b) (.sl id ver sz off n)=.sl (swN a b id) ver sz off n:=rfl
theorem tn_ptr:AV.turn (swT a b) (.ptr id ver off)=.ptr (swN a b id) ver off:=rfl
theorem tn_map:AV.turn (swT a b) (.map id ver)=.map (swN a b id) ver:=rfl
theorem tn_agg:AV.turn τ (.agg l)=.agg (AV.turnL τ l):=rfl
theorem tn_tup:AV.turn τ (.tup l)=.tup (AV.turnL τ l):=rfl
theorem tn_clo:AV.turn τ (.clo g l)=.clo g (AV.turnL τ l):=rfl
theorem tl_nil:AV.turnL τ [] = []:=rfl
theorem tl_cons:AV.turnL τ (y::l)=AV.turn τ y::AV.turnL τ l:=rfl
theorem tl_fs:AV.turnL τ (xs.map .f)=xs.map .f:=by rw[AV.turnL_eq,List.map_map];rfl
theorem swE_f {t:Nat} : (swE a b env).f t=(env.f t).turn (swT a b):=rfl
theorem swE_n:(swE a b env).n=env.n:=rfl
theorem swH_at:swH a b H id=swX a b (H (swN a b id)):=rfl
theorem swX_c:swX a b (ver,some (.cells l))=(ver,some (.cells (AV.turnL (swT a b) l))):=rfl
theorem swX_m:swX a b (ver,some (.map m))=(ver,some (.map m)):=rfl
theorem swX_n:swX a b (ver,none)=(ver,none):=rfl
theorem sws_n:swsE [] env=env:=rfl
theorem sws_c {l:List (Nat × Nat)} : swsE ((a,b)::l) env=swsE l (swE a b env):=rfl
theorem swh_n:swsH [] H=H:=rfl
theorem swh_c {l:List (Nat × Nat)} : swsH ((a,b)::l) H=swsH l (swH a b H):=rfl
theorem QCa (ha:decide (a<100000)=true) (hb:decide (b<100000)=true) (h:Small H):Small (swH a b H):=fun id hid hne=>by
 have ha:=of_decide_eq_true ha
 have hb:=of_decide_eq_true hb
 have e:swN a b id=id:=by unfold swN;rw[if_neg (by omega),if_neg (by omega)]
 rw[swH_at,e,h id hid hne];rfl
theorem YH {t:Nat} : ∀ {l:List Nat},Free t H→Free t (Xh l H):=fun h j=>by
 rw[Xg,h j];split<;>rfl
end

open Go.RowKit
set_option linter.unusedVariables false
set_option linter.unusedSimpArgs false

def FRetH (P:Program) (f:FuncId) (a0:AV) (pcs:List RC) (ri:List RS) (tl:List AV) (pcs':List RC) (rs:List RS):Prop:=
 FCall P f (a0::(putS 80000 (Qo 0 pcs) ri++tl)) (upd (Qz 80000 (Qo 0 pcs) ri (XN 80000 0 pcs H0)) 100001 (1,some (.cells (Vk 80000 0 pcs))))
  (fun r H'=>∃ l cs',r=QI l∧H' 100001=(1,some (.cells cs'))∧YD H' pcs' cs'∧RsOk H' rs l∧(idsC cs'++idsS l).Nodup∧100001∉idsC cs'++idsS l)

abbrev QBj (P:Program) (f:FuncId) (pcs:List RC) (ri:List RS) (tl:List AV) (pcs':List RC) (rs:List RS):Prop:=FRetH P f (.ptr 100001 1 0) pcs ri tl pcs' rs
abbrev Yt (P:Program) (f:FuncId) (sz n:Nat) (pcs:List RC) (ri:List RS) (tl:List AV) (pcs':List RC) (rs:List RS):Prop:=FRetH P f (.sl 100001 1 sz 0 n) pcs ri tl pcs' rs
def Head (id ver:Nat) (a0 a0':AV):Prop:=∀ {G:QM}{Z:Nat→Prop}{w:World}{v:Value}{loc:Option (Nat × Nat)},G id=(ver,some loc)→RepA G Z w a0 v→∃ g o,loc=some (g,o)∧∀ Gc:QM,Gc 100001=(1,some (some (g,o)))→RepA Gc Z w a0' v
theorem head_ptr {id ver:Nat} : Head id ver (.ptr id ver 0) (.ptr 100001 1 0):=fun hG hr=>by
 obtain⟨g0,o0,rfl,rfl⟩:=hr.ptr_ hG
 exact⟨g0,o0,rfl,fun Gc h=> .ptrLive _ _ _ g0 o0 h⟩
theorem head_sl {id ver sz n:Nat}(hn:0<n):Head id ver (.sl id ver sz 0 n) (.sl 100001 1 sz 0 n):=fun hG hr=>by
 cases hr with
 | slOld _ _ _ _ _ _ h1 h2 h3=>have:=h2 (by rw[hG]);rw[hG]at this;cases this
 | slCap=>omega
 | slLive _ _ _ _ _ g o c h1 h2 h3 h4=>
  rw[hG]at h1
  have e:=(Prod.mk.inj h1).2
  exact⟨g,o,Option.some.inj e,fun Gc h=> .slLive _ _ _ _ _ g o c h h2 h3 h4⟩

theorem Up {t i:Nat} : ∀ {rs:List RC}{k:Nat}{H H2:Heap},H i=H2 i→XN t k rs H i=XN t k rs H2 i
 | [],_,_,_,h=>h
 | .v _::rs,k,H,H2,h=>Up (rs:=rs) h
 | .own sz n cs::rs,k,H,H2,h=>Up (rs:=rs) (by
  show upd H _ _ i=upd H2 _ _ i
  unfold upd;split
  ·rfl
  ·exact h)
theorem Jj {t i:Nat} : ∀ {rs:List RS}{k:Nat}{H H2:Heap},H i=H2 i→Qz t k rs H i=Qz t k rs H2 i
 | [],_,_,_,h=>h
 | .c r::rs,k,H,H2,h=>Jj (rs:=rs) (Up (rs:=[r]) h)
 | .agg l::rs,k,H,H2,h=>Jj (rs:=rs) (Up (rs:=l) h)
theorem St.recell {P:Program}{G:QM}{H:Heap}{Z:Nat→Prop}{w:World}(st:St P G H Z w){id ver g o:Nat}(hG:G id=(ver,some (some (g,o)))){arr:Array Value}{e:TypeId}(hh:w.heap[g]? = some (.cells arr e (0,0))){cs:List AV}(hc:CellsR (RepA G Z w) arr o cs) :
  St P G (upd H id (ver,some (.cells cs))) Z w:=by
 refine⟨fun i=> ?_,fun i h=> ?_,fun i ob h=> ?_,st.inj,st.disj,st.zlt,st.glt,st.ones⟩
 ·by_cases e':i=id
  ·subst e';rw[upd_same,hG]
  ·rw[QL _ _ _ _ e'];exact st.ver i
 ·by_cases e':i=id
  ·subst e';rw[upd_same]at h;cases h
  ·rw[QL _ _ _ _ e']at h;exact st.dead i h
 ·by_cases e':i=id
  ·subst e'
   rw[upd_same]at h
   obtain rfl:=Option.some.inj h
   exact⟨some (g,o),by rw[hG],arr,e,hh,hc⟩
  ·rw[QL _ _ _ _ e']at h;exact st.obj i ob h
theorem QBZ {G G':QM}{Z Z':Nat→Prop}{w w':World}{cs cs':List AV}(hrep:∀ v,RepA G Z w (.agg cs) v→RepA G' Z' w' (.agg cs') v){arr:Array Value}{o:Nat}(h:CellsR (RepA G Z w) arr o cs):CellsR (RepA G' Z' w') arr o cs':=by
 obtain⟨us,hus⟩:∃ us:List Value,us.length=cs.length∧∀ j a,cs[j]? = some a→∃ v,us[j]? = some v∧arr[o+j]? = some v∧v.oneCell'=true∧RepA G Z w a v:=by
  refine⟨(List.range cs.length).map fun j=>arr.getD (o+j) undef,by simp,fun j a ha=> ?_⟩
  obtain⟨v,h1,h2,h3⟩:=h j a ha
  have hj:=(List.getElem?_eq_some_iff.1 ha).1
  refine⟨v,?_,h1,h2,h3⟩
  rw[List.getElem?_map,List.getElem?_range hj,Option.map_some,Array.getD_eq_getD_getElem?,h1];rfl
 obtain⟨hl,hu⟩:=hus
 have hone:∀ (j:Nat) (u:Value),us[j]? = some u→∃ a,cs[j]? = some a∧arr[o+j]? = some u∧u.oneCell'=true∧RepA G Z w a u:=fun j u hju=>by
  have hj:=(List.getElem?_eq_some_iff.1 hju).1
  obtain⟨v,g1,g2⟩:=hu j _ (List.getElem?_eq_getElem (by omega))
  rw[hju]at g1;obtain rfl:=Option.some.inj g1
  exact⟨_,List.getElem?_eq_getElem (by omega),g2⟩
 have h1:=hrep (.agg us.toArray) (.agg cs us.toArray (by simp [hl]) (fun j u hju=>(hone j u (by simpa using hju)).elim fun _ h=>h.2.2.1) (fun j a u ha hju=>by
  obtain⟨a',g1,_,_,g4⟩:=hone j u (by simpa using hju)
  rw[ha]at g1;obtain rfl:=Option.some.inj g1
  exact g4))
 intro j a ha
 cases h1 with
 | agg _ _ k1 k2 k3=>
  have hj:=(List.getElem?_eq_some_iff.1 ha).1
  have hjs:us[j]? = some (us[j]'(by simp at k1;omega)):=List.getElem?_eq_getElem _
  obtain⟨_,_,g2,g3,_⟩:=hone j _ hjs
  exact⟨_,g2,g3,k3 j a _ ha (by simp)⟩

section
variable {P:Program}{t:Nat}
theorem call_pm {f:FuncId}{id ver:Nat}{a0 a0':AV}{cs l tl0 tl:List AV}{H:Heap}{pcs pcs':List RC}{ri rs:List RS}(hF:FRetH P f a0' pcs ri tl pcs' rs) (hd:Head id ver a0 a0') (hc:cellsOf ver (H id)=some cs) (hpc:YD H pcs cs) (hri:RsOk H ri l) (hnd:(idsC cs++idsS l).Nodup) (hni:id∉idsC cs++idsS l)
  (htl:LeL tl0 tl) (hp:tl.all AV.pure=true) (hidt:∀ j,id≠t+1000*j) (hfree:∀ j,j<Qs (Qo 0 pcs') rs→H (t+1000*j)=(0,none)) :
  ACall P f (a0::(l++tl0)) H (fun r H'=>r=QI (putS t (Qo 0 pcs') rs)∧H'=upd (Qz t (Qo 0 pcs') rs (XN t 0 pcs' (Xh (idsC cs++idsS l) H))) id (ver,some (.cells (Vk t 0 pcs')))):=by
 refine⟨hF.1,fun G Z w vs st hsz hrep=> ?_⟩
 obtain⟨loc,hG,hob,hH⟩:=st.cells hc
 simp only[List.length_cons,List.length_append]at hsz
 have hv0:vs[0]? = some (vs[0]'(by omega)):=Array.getElem?_eq_getElem _
 obtain⟨g0,o0,rfl,hp0⟩:=hd hG (hrep 0 _ _ rfl hv0)
 obtain⟨arr0,e0,hh0,hcc0⟩:=hob
 generalize hids:idsC cs++idsS l=ids at*
 have bk0:QCL P G H Z Z w (fun _=>true) (fun _=>(0,none)) (fun _=>False):=⟨st,fun _ h=>h,fun _ _ _ h=>h,fun b ⟨_,_,h⟩=>by cases h⟩
 have ow0:Own2 P G (fun _=>(0,none)) Z w 80000 0 (Qs 0 (.agg pcs::ri)) [] (fun _=>(0,none)) H0:=
  ⟨⟨fun _=>rfl,fun _ _=>rfl,fun id o h=>(by cases h),fun _ _ _ _ _ h=>(by cases h),fun _ _ _ h=>(by cases h),st.zlt,fun _ _ _ h=>(by cases h),fun _ _ _ h=>(by cases h)⟩,fun _ _ _=>rfl,fun b hb=> .inl hb⟩
 obtain⟨Gc1,used,ow,hus,_,hels,hl1,hl2,hrep'⟩:=Wi bk0 (.agg pcs::ri) (.agg cs::l) ow0 ⟨hpc,hri⟩ (WZ _) (by show(idsC cs++idsS l).Nodup;rw[hids];exact hnd) (fun id _=>⟨fun h=>(by cases h),fun h=>h⟩) (Nat.le_refl _)
 replace hus:∀ id∈used,id∈ids:=fun id h=>by rw[← hids];exact(hus id h).resolve_right (fun h=>by cases h)
 have lvc1:∀ b,Qb Gc1 b→∃ id∈ids,∃ o,(G id).2=some (some (b,o)):=fun b hb=>by
  rcases ow.lv b hb with⟨_,_,h⟩|⟨id,h1,h2⟩
  ·cases h
  ·exact⟨id,hus id h1,h2⟩
 have hg1:Gc1 100001=(0,none):=hels 100001 (fun j=>by omega)
 have hd1:Qz 80000 0 (.agg pcs::ri) H0 100001=(0,none):=by
  have h1:=ow.st.ver 100001
  rw[hg1]at h1
  refine Prod.ext h1.symm ?_
  cases h2:(Qz 80000 0 (.agg pcs::ri) H0 100001).2 with
  | none=>rfl
  | some o=>
   obtain⟨loc,h3,_⟩:=ow.st.obj 100001 o h2
   rw[hg1]at h3;cases h3
 have hng0 : ¬ Qb Gc1 g0:=fun h=>by
  obtain⟨id2,h1,o2,h2⟩:=lvc1 g0 h
  have:=st.inj _ _ _ _ _ (by rw[hG]:(G id).2=some (some (g0,o0))) h2
  subst this;exact hni h1
 obtain⟨stc,kc⟩:=ow.st.adopt2 hd1 (cs:=Vk 80000 0 pcs) (loc:=some (g0,o0)) ⟨VK hh0,st.disj id g0 o0 (by rw[hG]),hng0,arr0,e0,hh0,QBZ (fun v hv=>hrep' 0 _ _ v rfl rfl hv) hcc0,st.ones id g0 o0 (by rw[hG]) _ _ _ hh0⟩
 have lvc:∀ b,Qb (upd Gc1 100001 (1,some (some (g0,o0)))) b→b=g0∨∃ id∈ids,∃ o,(G id).2=some (some (b,o)):=fun b ⟨id',o,h⟩=>by
  by_cases e:id'=100001
  ·subst e;rw[upd_same]at h
   simp only[Option.some.injEq,Prod.mk.injEq]at h
   exact .inl h.1.symm
  ·rw[QL _ _ _ _ e]at h
   exact .inr (lvc1 b ⟨id',o,h⟩)
 have hlen:(putS 80000 (Qo 0 pcs) ri).length=l.length:=by
  have h1:(putS 80000 (Qo 0 pcs) ri).length+1=ri.length+1:=hl2
  have h2:l.length+1=ri.length+1:=hl1
  omega
 obtain⟨q1,q2⟩:=htl.rep (us:=vs.extract (l.length+1) vs.size) (G:=G) (Z:=Z) (w:=w) (fun j a u ha hu=>hrep (l.length+1+j) a u (by
   rw[show l.length+1+j=(l.length+j)+1 by omega,List.getElem?_cons_succ,List.getElem?_append_right (by omega)];simpa using ha) (by
  rw[Array.getElem?_extract]at hu
  split at hu
  ·exact hu
  ·cases hu))
 generalize hGc:upd Gc1 100001 (1,some (some (g0,o0)))=Gc at*
 have hGc1:Gc 100001=(1,some (some (g0,o0))):=by rw[← hGc,upd_same]
 refine(hF.2 Gc Z w vs stc (by simp only[List.length_cons,List.length_append,hlen,q1];omega) fun j a v ha hv=> ?_).mono fun e w1 ⟨v,r,H1,G1,Z1,e1,⟨l1,cs1,hl,hp1,hrc,hrs,hnd1,hni1⟩,st1,hh,hr⟩=> ?_
 ·cases j with
  | zero=>
   rw[hv0]at hv
   simp only[List.getElem?_cons_zero,Option.some.injEq]at ha hv
   subst ha hv
   exact hp0 Gc hGc1
  | succ j=>
   rw[List.getElem?_cons_succ]at ha
   rcases Nat.lt_or_ge j l.length with hj|hj
   ·rw[List.getElem?_append_left (by omega)]at ha
    exact(hrep' (j+1) _ a v (List.getElem?_eq_getElem (by simp;omega)) ha (hrep (j+1) _ v (by rw[List.getElem?_cons_succ,List.getElem?_append_left hj];exact List.getElem?_eq_getElem hj) hv)).keep kc
   ·rw[List.getElem?_append_right (by omega),hlen]at ha
    refine(q2 (j - l.length) a v ha ?_).pure_ (fun b hb=>⟨hb,rfl⟩) (List.all_eq_true.1 hp a (List.mem_of_getElem? ha))
    have hjs:=(Array.getElem?_eq_some_iff.1 hv).1
    rw[Array.getElem?_extract,if_pos (by omega),show l.length+1+(j - l.length)=j+1 by omega];exact hv
 have hG1:G1 100001=(1,some (some (g0,o0))):=by
  have h1:(G1 100001).1=1:=by rw[st1.ver,hp1]
  obtain⟨loc',h2,_⟩:=st1.obj 100001 _ (by rw[hp1])
  rcases hh.same 100001 (by omega) (by rw[h1,hGc1])with h3|h3
  ·rw[h3]at h2;cases h2
  ·exact Prod.ext h1 (by rw[h3,hGc1])
 obtain⟨arr1,e2,hh1,hcc1⟩:∃ (arr:Array Value) (e:TypeId),w1.heap[g0]? = some (.cells arr e (0,0))∧CellsR (RepA G1 Z1 w1) arr o0 cs1:=by
  obtain⟨loc',h2,h3⟩:=st1.obj 100001 _ (by rw[hp1])
  rw[hG1]at h2
  obtain rfl:=Option.some.inj h2
  exact h3
 have hz1:∀ b,Z1 b→Z b∨Qb Gc b∨w.heap.size≤b:=hh.zout
 let G2:QM:=fun id=>if id∈ids then((G id).1,none)else G id
 have g2in:∀ id,id∈ids→G2 id=((G id).1,none):=fun id h=>if_pos h
 have g2out:∀ id,id∉ids→G2 id=G id:=fun id h=>if_neg h
 have g2l:∀ id g o,(G2 id).2=some (some (g,o))→id∉ids∧(G id).2=some (some (g,o)):=fun id g o h=>by
  by_cases e:id∈ids
  ·rw[g2in id e]at h;cases h
  ·rw[g2out id e]at h;exact⟨e,h⟩
 have nc:∀ id' g o,id'∉ids→id'≠id→(G id').2=some (some (g,o))→¬ Qb Gc g:=fun id' g o h1 hne h2 hl=>by
  rcases lvc g hl with rfl|⟨id2,h3,o2,h4⟩
  ·exact hne (st.inj _ _ _ _ _ h2 (by rw[hG]))
  ·have:=st.inj _ _ _ _ _ h2 h4
   subst this;exact h1 h3
 have hz2:∀ b,Z1 b→¬ Qb G2 b:=fun b hb ⟨id',o,hl⟩=>by
  obtain⟨n1,n2⟩:=g2l _ _ _ hl
  by_cases e:id'=id
  ·subst e
   rw[hG]at n2
   simp only[Option.some.injEq,Prod.mk.injEq]at n2
   obtain⟨rfl,rfl⟩:=n2
   exact st1.disj 100001 g0 o0 (by rw[hG1]) hb
  ·rcases hz1 b hb with h|h|h
   ·exact st.disj _ _ _ n2 h
   ·exact nc _ _ _ n1 e n2 h
   ·have:=st.glt _ _ _ n2;omega
 have old:∀ b,b<w.heap.size→¬ Qb Gc b→w1.heap[b]? = w.heap[b]?:=hh.old
 have hk:Keep G Z w G2 Z1 w1:=by
  refine⟨hh.zin,fun id=> ?_,fun id _=> ?_,fun b arr e fz hlb h=> ?_⟩
  ·by_cases e:id∈ids
   ·rw[g2in id e];exact Nat.le_refl _
   ·rw[g2out id e];exact Nat.le_refl _
  ·by_cases e:id∈ids
   ·rw[g2in id e];exact .inl rfl
   ·rw[g2out id e];exact .inr rfl
  ·by_cases hc:Qb Gc b
   ·exact hh.room b arr e fz hc h
   ·exact⟨arr,e,fz,by rw[old b (VK h) hc];exact h,rfl⟩
 have st2:St P G2 (upd (Xh ids H) id (ver,some (.cells []))) Z1 w1:=by
  refine⟨fun i=> ?_,fun i h=> ?_,fun i o h=> ?_,fun i1 i2 g o1 o2 h1 h2=>st.inj _ _ _ _ _ (g2l _ _ _ h1).2 (g2l _ _ _ h2).2,fun i g o h hz=>hz2 g hz ⟨i,o,h⟩,st1.zlt,fun i g o h=>Nat.lt_of_lt_of_le (st.glt _ _ _ (g2l _ _ _ h).2) hh.size,fun i g o h=> ?_⟩
  ·by_cases ei:i=id
   ·subst ei;rw[upd_same,g2out _ hni,hG]
   ·rw[QL _ _ _ _ ei,Xg]
    by_cases e:i∈ids
    ·rw[g2in i e,if_pos e];exact st.ver i
    ·rw[g2out i e,if_neg e];exact st.ver i
  ·by_cases ei:i=id
   ·subst ei;rw[upd_same]at h;cases h
   ·rw[QL _ _ _ _ ei,Xg]at h
    by_cases e:i∈ids
    ·rw[g2in i e]
    ·rw[g2out i e];rw[if_neg e]at h;exact st.dead i h
  ·by_cases ei:i=id
   ·subst ei
    rw[upd_same]at h
    obtain rfl:=Option.some.inj h
    exact⟨some (g0,o0),by rw[g2out _ hni,hG],arr1,e2,hh1,fun j a h=>by simp at h⟩
   ·rw[QL _ _ _ _ ei,Xg]at h
    by_cases e:i∈ids
    ·rw[if_pos e]at h;cases h
    ·rw[if_neg e]at h
     rw[g2out i e]
     obtain⟨loc,k1,k2⟩:=st.obj i o h
     refine⟨loc,k1,?_⟩
     cases loc with
     | none=>cases o<;>exact k2
     | some q=>
      obtain⟨g,ob⟩:=q
      have hb:=old g (st.glt _ _ _ k1) (nc _ _ _ e ei k1)
      cases o with
      | cells cs=>
       obtain⟨arr,e,k3,k4⟩:=k2
       exact⟨arr,e,hb.trans k3,k4.mono fun a v hr=>hr.keep hk⟩
      | ty cs tt=>
       obtain⟨h00,arr,k3,k4⟩:=k2
       exact⟨h00,arr,(by rw[hb];exact k3),k4.mono fun a v hr=>hr.keep hk⟩
      | _=>
       obtain⟨k3,es,clock,k4,k5⟩:=k2
       exact⟨k3,es,clock,hb.trans k4,k5⟩
  ·obtain⟨n1,n2⟩:=g2l _ _ _ h
   by_cases ei:i=id
   ·subst ei
    rw[hG]at n2
    simp only[Option.some.injEq,Prod.mk.injEq]at n2
    obtain⟨rfl,rfl⟩:=n2
    exact st1.ones 100001 g0 o0 (by rw[hG1])
   ·exact(st.ones _ _ _ n2).same (old g (st.glt _ _ _ n2) (nc _ _ _ n1 ei n2))
 have lvg:∀ b,Qb Gc b→Qb G b:=fun b hb=>by
  rcases lvc b hb with rfl|⟨id,_,o,h2⟩
  ·exact⟨id,o0,by rw[hG]⟩
  ·exact⟨id,o,h2⟩
 have lv1:∀ b,Qb G1 b→Qb G b∨w.heap.size≤b:=fun b hb=>(hh.live b hb).imp (lvg b) (fun h=>h)
 have lv2:∀ b,Qb G2 b→Qb G b:=fun b ⟨id,o,h⟩=>⟨id,o,(g2l _ _ _ h).2⟩
 have bk2:QCL P G1 H1 Z1 Z1 w1 (fun _=>true) G2 (fun i=>i=100001):=⟨st1,fun _ h=>h,fun _ _ _ h=>h,fun b ⟨id',o,h⟩ i o' h'=>by
  obtain⟨n1,n2⟩:=g2l _ _ _ h
  by_cases ei:id'=id
  ·subst ei
   rw[hG]at n2
   simp only[Option.some.injEq,Prod.mk.injEq]at n2
   obtain⟨rfl,rfl⟩:=n2
   exact st1.inj _ _ _ _ _ h' (by rw[hG1])
  ·rcases hh.live b ⟨i,o',h'⟩with h3|h3
   ·exact absurd h3 (nc _ _ _ n1 ei n2)
   ·have:=st.glt _ _ _ n2;omega⟩
 have ow2:Own2 P G1 G2 Z1 w1 t 0 (Qs (Qo 0 pcs') rs) [] G2 (upd (Xh ids H) id (ver,some (.cells []))):=⟨st2,fun j _ hj=>by rw[QL _ _ _ _ (Ne.symm (hidt j)),Xg,hfree j hj];split<;>rfl,fun b hb=> .inl hb⟩
 obtain⟨G',used',ow',hus',hk',hels',hl1',hl2',hrep2⟩:=Wi bk2 (.agg pcs'::rs) (.agg cs1::l1) ow2 ⟨hrc,hrs⟩ (WZ _) hnd1 (fun i hi=>⟨fun h=>(by cases h),fun h=>hni1 (h▸hi)⟩) (Nat.le_refl _)
 have hG':G' id=(ver,some (some (g0,o0))):=by rw[hels' id hidt,g2out _ hni,hG]
 have st3:=ow'.st.recell hG' hh1 (cs:=Vk t 0 pcs') (QBZ (fun v hv=>hrep2 0 _ _ v rfl rfl hv) hcc1)
 have hHeq:upd (Qz t 0 (.agg pcs'::rs) (upd (Xh ids H) id (ver,some (.cells [])))) id (ver,some (.cells (Vk t 0 pcs')))=upd (Qz t (Qo 0 pcs') rs (XN t 0 pcs' (Xh ids H))) id (ver,some (.cells (Vk t 0 pcs'))):=by
  funext i
  by_cases ei:i=id
  ·subst ei;rw[upd_same,upd_same]
  ·rw[QL _ _ _ _ ei,QL _ _ _ _ ei]
   exact Jj (rs:= .agg pcs'::rs) (QL _ _ _ _ ei)
 rw[hHeq]at st3
 refine⟨v,_,_,G',_,e1,⟨rfl,rfl⟩,st3,?_,?_⟩
 ·refine⟨⟨fun b hb=>hh.zin b hb,fun id=>Nat.le_trans (hk.ver id) (hk'.ver id),fun id e=> ?_,fun b arr e fz hl h=>hk.room b arr e fz hl h⟩,hh.os,hh.tape,hh.output,hh.size,fun b hb hn=>old b hb fun hc=>hn (lvg b hc),fun b hb=> ?_,fun b hb=> ?_⟩
  ·have a1:=hk.ver id
   have a2:=hk'.ver id
   rcases hk'.same id (by omega)with h3|h3
   ·exact .inl h3
   ·rcases hk.same id (by omega)with h4|h4
    ·exact .inl (h3.trans h4)
    ·exact .inr (h3.trans h4)
  ·rcases hz1 b hb with h|h|h
   ·exact .inl h
   ·exact .inr (.inl (lvg b h))
   ·exact .inr (.inr h)
  ·rcases ow'.lv b hb with h|⟨id,_,o,h⟩
   ·exact .inl (lv2 b h)
   ·exact lv1 b ⟨id,o,h⟩
 ·rw[hl]at hr
  have hne:∀ {l:List AV},l.length≠1→QI l=.tup l:=by
   intro l h
   rcases l with _|⟨a,_|⟨b,l⟩⟩
   ·rfl
   ·exact absurd rfl h
   ·rfl
  have hl3:(putS t (Qo 0 pcs') rs).length=rs.length:=by
   have h1:(putS t (Qo 0 pcs') rs).length+1=rs.length+1:=hl2'
   omega
  have hl4:l1.length=rs.length:=by
   have h1:l1.length+1=rs.length+1:=hl1'
   omega
  by_cases h1:l1.length=1
  ·obtain⟨a,rfl⟩:=List.length_eq_one_iff.1 h1
   obtain⟨b,hb⟩:=List.length_eq_one_iff.1 (by rw[hl3,← hl4,h1]:(putS t (Qo 0 pcs') rs).length=1)
   rw[hb]
   exact hrep2 1 a b v rfl (by show(putS t (Qo 0 pcs') rs)[0]? = some b;rw[hb];rfl) hr
  ·rw[hne h1]at hr
   rw[hne (by rw[hl3,← hl4];exact h1)]
   obtain⟨us,rfl,g1,g3⟩:=hr.tup_
   refine .tup _ us (by omega) fun j b u hb hu=> ?_
   have hj:=(List.getElem?_eq_some_iff.1 hb).1
   have hx':l1[j]? = some l1[j]:=List.getElem?_eq_getElem (by omega)
   exact hrep2 (j+1) _ b u hx' hb (g3 j _ u hx' hu)
end
section
variable {P:Program}{R:Env→Heap→Prop}{Λ : Lams}{k:List It}{env:Env}{H:Heap}{d:Nat}{f:Operand}{args:List Operand}{g:Option (Nat × Bool)}{los:List LO}{fid:FuncId}{tl:List AV}{ri rs:List RS}{pcs pcs':List RC}
theorem free_ne {id ver:Nat}{cs:List AV}(hfree:Free d H) (hc:cellsOf ver (H id)=some cs):∀ j,id≠d+1000*j:=fun j e=>by
 rw[e,hfree j]at hc;cases hc
theorem callPm (hg:gd g env=some true) (hF:QBj P fid pcs ri tl pcs' rs) (hfn:evA env f=.f (.fn (.func fid))) (id ver:Nat) (cs l tl0:List AV) (ha:args.map (evA env)=.ptr id ver 0::(l++tl0)) (hc:cellsOf ver (H id)=some cs) (hpc:YD H pcs cs) (hri:RsOk H ri l) (hnd:(idsC cs++idsS l).Nodup) (hni:id∉idsC cs++idsS l) (htl:LeL tl0 tl) (hp:tl.all AV.pure=true) (hfree:Free d H)
  (h:srun P R 300 Λ (.ops los::k) (putE env (some d) (QI (putS d (Qo 0 pcs') rs))) (upd (Qz d (Qo 0 pcs') rs (XN d 0 pcs' (Xh (idsC cs++idsS l) H))) id (ver,some (.cells (Vk d 0 pcs'))))):Ax P R Λ (.ops (⟨some d,.call f args,g⟩::los)::k) env H:=
 Ys (f:=f) (args:=args) rfl hg (Q:=fun r H'=>r=QI (putS d (Qo 0 pcs') rs)∧H'=upd (Qz d (Qo 0 pcs') rs (XN d 0 pcs' (Xh (idsC cs++idsS l) H))) id (ver,some (.cells (Vk d 0 pcs')))) (by rw[hfn,ha];exact call_pm (t:=d) hF head_ptr hc hpc hri hnd hni htl hp (free_ne hfree hc) (fun j _=>hfree j)) fun v H' hq=>by obtain⟨h1,h2⟩:=hq;subst h1 h2;exact QP 300 _ _ _ _ h
theorem VW {sz n:Nat}(hn:0<n) (hg:gd g env=some true) (hF:Yt P fid sz n pcs ri tl pcs' rs) (hfn:evA env f=.f (.fn (.func fid))) (id ver:Nat) (cs l tl0:List AV) (ha:args.map (evA env)=.sl id ver sz 0 n::(l++tl0)) (hc:cellsOf ver (H id)=some cs) (hpc:YD H pcs cs) (hri:RsOk H ri l) (hnd:(idsC cs++idsS l).Nodup) (hni:id∉idsC cs++idsS l) (htl:LeL tl0 tl) (hp:tl.all AV.pure=true) (hfree:Free d H)
  (h:srun P R 300 Λ (.ops los::k) (putE env (some d) (QI (putS d (Qo 0 pcs') rs))) (upd (Qz d (Qo 0 pcs') rs (XN d 0 pcs' (Xh (idsC cs++idsS l) H))) id (ver,some (.cells (Vk d 0 pcs'))))):Ax P R Λ (.ops (⟨some d,.call f args,g⟩::los)::k) env H:=
 Ys (f:=f) (args:=args) rfl hg (Q:=fun r H'=>r=QI (putS d (Qo 0 pcs') rs)∧H'=upd (Qz d (Qo 0 pcs') rs (XN d 0 pcs' (Xh (idsC cs++idsS l) H))) id (ver,some (.cells (Vk d 0 pcs')))) (by rw[hfn,ha];exact call_pm (t:=d) hF (head_sl hn) hc hpc hri hnd hni htl hp (free_ne hfree hc) (fun j _=>hfree j)) fun v H' hq=>by obtain⟨h1,h2⟩:=hq;subst h1 h2;exact QP 300 _ _ _ _ h
end

open Go.RowKit
set_option linter.unusedVariables false
set_option linter.unusedSimpArgs false

theorem Jk {t i:Nat} : ∀ {rs:List RC}{k:Nat}{H:Heap},(∀ j,k≤j→j<Qo k rs→i≠t+1000*j)→XN t k rs H i=H i
 | [],_,_,_=>rfl
 | .v _::rs,k,H,h=>Jk (rs:=rs) h
 | .own sz n cs::rs,k,H,h=>by
  have h1:i≠t+1000*k:=h k (Nat.le_refl _) (Nat.lt_of_lt_of_le (Nat.lt_succ_self k) (ZC rs (k+1)))
  exact(Jk (rs:=rs) (k:=k+1) fun j h1 h2=>h j (by omega) h2).trans (QL _ _ _ _ h1)
theorem JA {t i:Nat} : ∀ {rs:List RS}{k:Nat}{H:Heap},(∀ j,k≤j→j<Qs k rs→i≠t+1000*j)→Qz t k rs H i=H i
 | [],_,_,_=>rfl
 | .c r::rs,k,H,h=>(JA (rs:=rs) fun j h1 h2=>h j (Nat.le_trans (Oa k r) h1) h2).trans (Jk (rs:=[r]) fun j h1 h2=>h j h1 (Nat.lt_of_lt_of_le h2 (YF rs _)))
 | .agg l::rs,k,H,h=>(JA (rs:=rs) fun j h1 h2=>h j (Nat.le_trans (ZC l k) h1) h2).trans (Jk (rs:=l) fun j h1 h2=>h j h1 (Nat.lt_of_lt_of_le h2 (YF rs _)))
def wrL (t:Nat):Nat→List Nat
 | 0=>[]
 | n+1=>(t+1000*n)::wrL t n
theorem wrL_0 {t:Nat} : wrL t 0 = []:=rfl
theorem wrL_1 {t:Nat} : wrL t 1 = [t]:=rfl
theorem wrL_2 {t:Nat} : wrL t 2 = [t+1000,t]:=rfl
theorem Wo {t i:Nat} : ∀ {n:Nat},i∈wrL t n↔∃ j,j<n∧i=t+1000*j
 | 0=>by simp [wrL]
 | n+1=>by
  rw[wrL,List.mem_cons,Wo (n:=n)]
  constructor
  ·rintro(h|⟨j,h1,h2⟩)
   ·exact⟨n,by omega,h⟩
   ·exact⟨j,by omega,h2⟩
  ·rintro⟨j,h1,h2⟩
   by_cases e:j=n
   ·subst e;exact .inl h2
   ·exact .inr ⟨j,by omega,h2⟩
theorem nss_n {k:Nat} : Qs k []=k:=rfl
theorem nss_c {k:Nat}{r:RC}{rs:List RS} : Qs k (.c r::rs)=Qs (YR k r) rs:=rfl
theorem nss_a {k:Nat}{l:List RC}{rs:List RS} : Qs k (.agg l::rs)=Qs (Qo k l) rs:=rfl
section
variable {P:Program}{R:Env→Heap→Prop}{Λ : Lams}{k:List It}{env:Env}{H:Heap}{d j:Nat}{f:Operand}{args:List Operand}{g:Option (Nat × Bool)}{los:List LO}{dos:List DO}{acc:List Fp}{od:List Nat}{fid:FuncId}{args' caps:List AV}{rs:List RS}
theorem callDO (hg:gd g env=some true) (hF:FRet P fid args' rs) (hfn:evA env f=.f (.fn (.func fid))) (ha:LeL (args.map (evA env)) args') (hp:args'.all AV.pure=true) (hfree:Free d H) (hk:VQ acc od [] (wrL d (Qs 0 rs))=true)
  (h:srun P R 300 Λ (.dops dos (j+1) (XQ j [] (wrL d (Qs 0 rs)) acc)::k) (putE env (some d) (QI (putS d 0 rs))) (Qz d 0 rs H)):Ax P R Λ (.dops (⟨some d,.call f args,g,od⟩::dos) j acc::k) env H:=by
 have out:∀ (H:Heap) id,id∉wrL d (Qs 0 rs)→Qz d 0 rs H id=H id:=fun H id hid=>JA fun j _ h2 e=>hid (Wo.2 ⟨j,h2,e⟩)
 refine WY (f:=f) (args:=args) (rd:=[]) (wr:=wrL d (Qs 0 rs)) (v:=QI (putS d 0 rs)) (H':=Qz d 0 rs H) rfl hg (out H) (fun H2 _ hw=> ?_) hk (QP 300 _ _ _ _ h)
 rw[hfn]
 refine ACall.mono ((call_p (t:=d) hF hp fun j hj=>by rw[hw _ (Wo.2 ⟨j,hj,rfl⟩)];exact hfree j).le ha) fun r H' ⟨h1,h2⟩=>⟨h1,?_⟩
 rw[h2]
 funext id
 unfold mix
 split
 ·rename_i hid;exact Jj (hw id hid)
 ·rename_i hid;exact out H2 id hid
end
section
variable {H H':Heap}{nw:List Nat}
theorem SlotsOk.set:∀ {l:List FV}{i:Nat}{a:AV},(∀ x,l[i]? = some x→SlotOk H H' nw a (.f x))→SlotsOk H H' nw ((l.map AV.f).set i a) (l.map .f)
 | [],_,_,_=>by simp [SlotsOk]
 | x::l,0,a,h=>⟨h x rfl,SlotsOk.fs rfl⟩
 | x::l,i+1,a,h=>⟨.inl rfl,SlotsOk.set (l:=l) fun y hy=>h y (by simpa using hy)⟩
end

open Go.RowKit
set_option linter.unusedVariables false
set_option linter.unusedSimpArgs false

structure Hide (p:Prop):Prop where
 out:p
theorem hide {p:Prop}(h:p):Hide p:=⟨h⟩
def frB (l:List UInt8):FV:= .fr 1 (l.map encU)
theorem YZ:∀ (xs p a r:List AV),a.length=xs.length→splice (p++(a++r)) p.length xs=p++(xs++r)
 | [],p,a,r,h=>by
  have:a = []:=List.eq_nil_of_length_eq_zero h
  subst this;rw[Je]
 | x::xs,p,a,r,h=>by
  rcases a with _|⟨y,a⟩
  ·simp at h
  ·rw[splice,List.cons_append,List.set_append_right _ _ (Nat.le_refl _),Nat.sub_self,List.set_cons_zero]
   have:=YZ xs (p++ [x]) a r (by simpa using h)
   simpa using this
def rowF {α : Type}(enc : α→List FV) (l:List α):List FV:=(l.map enc).flatten
section
variable {α : Type}{enc : α→List FV}{sz:Nat}{l:List α}{i k:Nat}{x : α}
theorem row_nil:rowF enc [] = []:=rfl
theorem Qr:rowF enc (x::l)=enc x++rowF enc l:=rfl
theorem Yb {m:List α} : rowF enc (l++m)=rowF enc l++rowF enc m:=by simp [rowF]
theorem QD (hs:∀ x,(enc x).length=sz):(rowF enc l).length=l.length*sz:=by
 rw[rowF,Qn (sz:=sz) _ (fun y hy=>by obtain⟨z,_,rfl⟩:=List.mem_map.1 hy;exact hs z),List.length_map]
theorem Zz (hs:∀ x,(enc x).length=sz) (h:l[i]? = some x):rowF enc l=rowF enc (l.take i)++(enc x++rowF enc (l.drop (i+1)))∧(rowF enc (l.take i)).length=i*sz:=by
 have hi:=(List.getElem?_eq_some_iff.1 h).1
 have e:l=l.take i++(x::l.drop (i+1)):=by
  rw[List.getElem?_eq_getElem hi]at h
  obtain rfl:=Option.some.inj h
  rw[List.getElem_cons_drop,List.take_append_drop]
 refine⟨?_,?_⟩
 ·conv=>lhs;rw[e]
  rw[Yb,Qr]
 ·rw[QD hs,List.length_take,Nat.min_eq_left (by omega)]
theorem XE (hs:∀ x,(enc x).length=sz) (h:l[i]? = some x):(((rowF enc l).map AV.f).drop (i*sz)).take sz=(enc x).map AV.f:=by
 obtain⟨e,hl⟩:=Zz hs h
 rw[e,List.map_append,List.drop_append_of_le_length (by simp [hl]),List.drop_eq_nil_of_le (by simp [hl]),List.nil_append,List.map_append,List.take_append_of_le_length (by simp [hs]),List.take_of_length_le (by simp [hs])]
theorem XL (hs:∀ x,(enc x).length=sz) (h:i<l.length):(i*sz+sz≤((rowF enc l).map AV.f).length)=True:=by
 rw[eq_iff_iff,iff_true,List.length_map,QD hs]
 have:(i+1)*sz≤l.length*sz:=Nat.mul_le_mul_right _ h
 rwa [Nat.succ_mul]at this
theorem ZS (hs:∀ x,(enc x).length=sz) (h:i<l.length):splice ((rowF enc l).map AV.f) (i*sz) ((enc x).map AV.f)=(rowF enc (l.set i x)).map AV.f:=by
 obtain⟨e,hl⟩:=Zz (x:=l[i]) hs (List.getElem?_eq_getElem h)
 have e2:l.set i x=l.take i++(x::l.drop (i+1)):=by rw[List.set_eq_take_append_cons_drop,if_pos h]
 rw[e,e2,Yb,Qr,List.map_append,List.map_append,List.map_append,List.map_append]
 have h2:((rowF enc (l.take i)).map AV.f).length=i*sz:=by rw[List.length_map,hl]
 rw[← h2]
 exact YZ _ _ _ _ (by simp [hs])
theorem Vy {m:List α} : rowF enc (m++ [x])=rowF enc m++enc x:=by rw[Yb,Qr,row_nil,List.append_nil]
theorem so_row (hs:∀ x,(enc x).length=sz){H H':Heap}{nw:List Nat}{id ver n:Nat}{t:List FV}(hd:(H' id).2=none) (hc:cellsOf ver (H id)=some ((rowF enc l++t).map .f)) (hn:n=l.length):SlotOk H H' nw (.sl id ver sz 0 n) (.f (.fr sz (l.map enc))):=by
 subst hn
 simp only[SlotOk]
 refine⟨trivial,by simp,fun x hx=> ?_,hd,_,hc,?_,?_⟩
 ·obtain⟨z,_,rfl⟩:=List.mem_map.1 hx;exact hs z
 ·simp [QD hs]
 ·rw[Nat.zero_mul,List.drop_zero,List.map_append,List.take_append_of_le_length (by simp [QD hs]),List.take_of_length_le (by simp [QD hs])];rfl
theorem Zx (hs:∀ x,(enc x).length=sz){H H':Heap}{nw:List Nat}{id ver n:Nat}(hd:(H' id).2=none) (hc:cellsOf ver (H id)=some ((rowF enc l).map .f)) (hn:n=l.length):SlotOk H H' nw (.sl id ver sz 0 n) (.f (.fr sz (l.map enc))):=
 so_row (t:=[]) hs hd (by rw[List.append_nil];exact hc) hn
end
theorem Jh {α : Type}{enc : α→List FV}{sz:Nat}{l:List α}{i j:Nat}{x : α}{a:FV}(hs:∀ x,(enc x).length=sz) (h:l[i]? = some x) (ha:(enc x)[j]? = some a):((rowF enc l).map AV.f)[i*sz+j]? = some (.f a):=by
 obtain⟨e,hl⟩:=Zz hs h
 have hj:=(List.getElem?_eq_some_iff.1 ha).1
 rw[List.getElem?_map,e,List.getElem?_append_right (by omega),hl,Nat.add_sub_cancel_left,List.getElem?_append_left hj,ha];rfl
theorem QE {n x:Nat}{wr:List Nat}{acc:List Fp} : XQ n [] (x::wr) acc=⟨n,[],x::wr⟩::acc:=rfl
theorem so_mf {H H':Heap}{nw:List Nat}{id ver:Nat}{m:List (ByteArray × Value)} : SlotOk H H' nw (.map id ver) (.f (.fm m))=((H' id).2=none∧JE ver (H id)=some m):=by rw[SlotOk]
theorem so_ptf {H H':Heap}{nw:List Nat}{id ver off:Nat}{l:List FV} : SlotOk H H' nw (.ptr id ver off) (.f (.fp l))=((H' id).2=none∧∃ cs,cellsOf ver (H id)=some cs∧off+l.length≤cs.length∧(cs.drop off).take l.length=l.map .f):=by rw[SlotOk]
theorem so_cc {H H':Heap}{nw:List Nat}{g g':Fn}{l l':List AV} : SlotOk H H' nw (.clo g l) (.clo g' l')=(g'=g∧SlotsOk H H' nw l l'):=by rw[SlotOk]
theorem so_ff' {H H':Heap}{nw:List Nat}{x:FV} : SlotOk H H' nw (.f x) (.f x)=True:=by rw[SlotOk];simp
mutual
theorem Ya {H H':Heap}{nw:List Nat} : ∀ a:AV,a.pure=true→SlotOk H H' nw a a
 | .any,h=>by simp only[SlotOk]
 | .f x,h=>by simp only[SlotOk];exact .inl trivial
 | .sl ..,h=>by simp [AV.pure]at h
 | .ptr ..,h=>by simp [AV.pure]at h
 | .map ..,h=>by simp [AV.pure]at h
 | .slc ..,h=>by simp [AV.pure]at h
 | .agg l,h=>by simp only[SlotOk];exact Kh l (by simpa only[AV.pure]using h)
 | .tup l,h=>by simp only[SlotOk];exact Kh l (by simpa only[AV.pure]using h)
 | .clo g l,h=>by simp only[SlotOk];exact⟨trivial,Kh l (by simpa only[AV.pure]using h)⟩
theorem Kh {H H':Heap}{nw:List Nat} : ∀ l:List AV,AV.pureL l=true→SlotsOk H H' nw l l
 | [],h=>by simp only[SlotsOk]
 | a::l,h=>by
  simp only[AV.pureL,Bool.and_eq_true]at h
  simp only[SlotsOk]
  exact⟨Ya a h.1,Kh l h.2⟩
end
theorem ret_oe {sz n n' id ver:Nat}{cs cs':List FV}{H:Heap}(hn:n'=n) (h:cellsOf ver (H id)=some (cs'.map .f)) (hc:cs'=cs) (hl:n*sz≤cs.length):Rets [.c (.own sz n cs)] (.sl id ver sz 0 n') H:=by
 subst hn hc;exact KV h hl
end Go.Proofs.YtjfchihkhpinmaaGreatDoor
