/-
  The abstract machine: what may be forgotten, renamed and frozen; loops by a state. No statement of the seat is proved here; no conditions.
-/
import Derived.Test.YtjfchihkhpinmaaGreatDoorEngK
namespace Go.Proofs.YtjfchihkhpinmaaGreatDoor
open Go.RowKit
set_option linter.unusedVariables false
set_option linter.unusedSimpArgs false

section
variable {P:Program}{R:Env→Heap→Prop}{Λ : Lams}{k:List It}{env:Env}{H:Heap}
theorem ZM {md:Region.Mode}{ops:Array Oper}{s:At0}{K:Env→Heap→Prop}{Q:Exit→Act→World→Prop}(hQ:∀ env H a w,K env H→Sim P s env H a w→Q .normal a w) :
  ∀ (fuel:Nat) (listed:Array Bool) (acc:List Fp) (env:Env) (H:Heap) (a:Act) (w:World),Sim P s env H a w→anyA P md ops K fuel listed acc env H→wpAny P md ops Q fuel listed a w
 | 0,_,_,env,H,a,w,hs,h=>⟨h.1,hQ _ _ _ _ h.2 hs⟩
 | fuel+1,listed,acc,env,H,a,w,hs,h=>by
  refine⟨fun h0=>hQ _ _ _ _ (h.1 h0) hs,fun i hi=> ?_⟩
  obtain⟨o,ho,h1⟩:=h.2 i hi
  obtain⟨G,Z,st,he,hd,hh⟩:=hs
  unfold wpOp
  simp only[ho]
  rcases h1 with⟨h1,h2⟩|⟨h1,rd,wr,v,H',hc,_,h2⟩
  ·rw[if_neg (by rw[Yp he h1];decide)]
   exact ZM hQ fuel _ acc _ _ _ _ (Sim.next he hd hh st (Step.refl _ _ _) (.tup _ _ rfl fun j x u h=>by simp at h)) h2
  ·rw[if_pos (Yp he h1)]
   refine .inl (hc.run env H (fun _ _=>rfl) (fun _ _=>rfl) (fun _ _=>rfl) G Z w a st he _ Q fun u v' H'' G' Z' w' hq k1 k2 k3=> ?_)
   obtain⟨rfl,rfl⟩:=hq
   have e:mix wr H' H=H':=by
    funext id;simp only[mix];split
    ·rfl
    ·rename_i hn;exact(hc.frame id hn).symm
   rw[e]at k1
   exact ZM hQ fuel _ acc _ _ _ _ (Sim.next he hd hh k1 k2 k3) h2
theorem Sim.drew {s:At0}{a:Act}{w:World}(h:Sim P s env H a w):Sim P s env H a { w with drawn:=w.drawn+1 }:=by
 obtain⟨G,Z,st,he,hd,hh⟩:=h
 obtain⟨s1,s2⟩:=st.drew 1
 exact⟨G,Z,s1,he.keep s2.toKeep,hd,hh.trans s2.hist⟩
theorem QB9 (md:Region.Mode) (ops:Array Oper) (n:Nat):Closed md ops (Array.replicate n false):=fun j o _ h=>by
 rw[Array.getD_eq_getD_getElem?,Array.getElem?_replicate]at h
 split at h<;>simp at h
theorem ax_draw {los:List DO}(h:Ax P R Λ (.dops los 0 []::k) env H):Ax P R Λ (.code (.draw los)::k) env H:=fun s t hm a w hs=>by
 cases hm with
 | code hc hm=>
  obtain⟨id,ops,rfl,hf,hB,h1⟩:=Yc hc
  have hl:=h s ops ops.toList _ [] [] h1 (fun j=>by simp) rfl (fun j r hj=>by simp at hj) (fun f hf=>by cases hf) hm
  refine Goal.wp (wp_region_any hf ?_)
  simp only[Region.lexB,Bool.and_eq_true]at hB
  have:=QDF hB.1 ops.toList 0 (Array.replicate ops.size false) [] env H (by simp) (QB9 _ _ _) (by simpa using hB.2) hl
  exact ZM (s:=s) (K:=fun env H=>∀ a w,Sim P s env H a w→Goal P (Fin P R s) _ a w) (fun env H a w hK hs=> .inl ⟨rfl,hK a w hs⟩) ops.size _ [] env H a _ hs.drew (by simpa using this)
theorem ax_dNil {n:Nat}{acc:List Fp}(h:Ax P R Λ k env H):Ax P R Λ (.dops [] n acc::k) env H:=fun s ops l t ords accF hl _ _ _ _ hm=>by
 have:l = []:=by
  cases l with
  | nil=>rfl
  | cons o l=>simp only[Xf]at hl;split at hl<;>cases hl
 subst this
 exact fun a w hs=>h.go hm hs
theorem UE {ops:Array Oper}{l:List Oper}{o:DO}{los:List DO}{ords:List (List Nat)}(h:Xf P ops l ords=some (o::los)) :
  ∃ c r,l=c::r∧Xe P c.op=some o.op∧o.dst=c.dst∧WA ops c.guard=some o.guard∧o.ord=OU c ords∧Xf P ops r (ords++ [OU c ords])=some los:=by
 cases l with
 | nil=>simp [Xf]at h
 | cons c r=>
  simp only[Xf]at h
  split at h
  ·rename_i a b ha hb
   simp only[Option.some.injEq,List.cons.injEq]at h
   obtain⟨h1,rfl⟩:=h
   obtain⟨g1,g2,g3⟩:=Ua ha
   subst h1
   exact⟨c,r,rfl,g1,g2,g3,rfl,hb⟩
  ·cases h
theorem NM {ops:Array Oper}{c:Oper}{ords:List (List Nat)}{n:Nat}(hn:ords.length=n) (hc:ops[n]? = some c) (h:∀ (j:Nat) (r:List Nat),ords[j]? = some r→∀ i∈r,Bef .any ops j i) :
  ∀ (j:Nat) (r:List Nat),(ords++ [OU c ords])[j]? = some r→∀ i∈r,Bef .any ops j i:=by
 intro j r hj i hi
 rcases Nat.lt_or_ge j n with h1|h1
 ·rw[List.getElem?_append_left (by omega)]at hj
  exact h j r hj i hi
 ·rw[List.getElem?_append_right (by omega)]at hj
  have hj0:j=n:=by
   have:=(List.getElem?_eq_some_iff.1 hj).1
   simp at this;omega
  subst hj0
  rw[hn,Nat.sub_self]at hj
  simp only[List.getElem?_cons_zero,Option.some.injEq]at hj
  subst hj
  unfold OU at hi
  rw[List.mem_eraseDups,List.mem_flatMap]at hi
  obtain⟨e,he,hi⟩:=hi
  rw[List.mem_filter]at he
  obtain⟨he,hb⟩:=he
  have he':e∈c.after:=by simpa using he
  rcases List.mem_cons.1 hi with rfl|hi
  ·exact .one hc he' hb
  ·rw[List.getD_eq_getElem?_getD]at hi
   cases hq:ords[e.on]? with
   | none=>rw[hq]at hi;simp at hi
   | some r=>rw[hq]at hi;exact .more hc he' hb (h e.on r hq i hi)
def XQ (n:Nat) (rd wr:List Nat) (acc:List Fp):List Fp:=match rd,wr with
 | [],[]=>acc
 | rd,wr=>⟨n,rd,wr⟩::acc
theorem QDG {n:Nat}{rd wr:List Nat}{acc accF:List Fp}(h:∀ f∈accF,f∈acc∨(f.rd = []∧f.wr = [])):∀ f∈(⟨n,rd,wr⟩:Fp)::accF,f∈XQ n rd wr acc∨(f.rd = []∧f.wr = []):=by
 intro f hf
 unfold XQ
 split
 ·rcases List.mem_cons.1 hf with rfl|hf
  ·exact .inr ⟨rfl,rfl⟩
  ·exact h f hf
 ·rcases List.mem_cons.1 hf with rfl|hf
  ·exact .inl (by simp)
  ·exact(h f hf).imp (fun h=>List.mem_cons_of_mem _ h) (fun h=>h)
theorem conf_ok {ops:Array Oper}{c:Oper}{ords:List (List Nat)}{n:Nat}{acc accF:List Fp}{rd wr:List Nat}(hn:ords.length=n) (hc:ops[n]? = some c) (h:∀ (j:Nat) (r:List Nat),ords[j]? = some r→∀ i∈r,Bef .any ops j i)
  (ha:∀ f∈accF,f∈acc∨(f.rd = []∧f.wr = [])) (hk:VQ acc (OU c ords) rd wr=true):∀ f∈accF,¬ Bef .any ops n f.i→f.ok rd wr=true:=by
 intro f hf hb
 rcases ha f hf with h1|⟨h1,h2⟩
 ·have:=List.all_eq_true.1 hk f h1
  rw[Bool.or_eq_true]at this
  rcases this with h3|h3
  ·have hi:f.i∈OU c ords:=by simpa using h3
   exact absurd (NM hn hc h n (OU c ords) (by rw[← hn];simp) f.i hi) hb
  ·exact h3
 ·simp [Fp.ok,h1,h2,disj]
theorem QAM {o:DO}{los:List DO}{n:Nat}{acc:List Fp}{rd wr:List Nat}{v:AV}{H':Heap}(hg:gd o.guard env=some true) (hc:∀ (c:Oper),Xe P c.op=some o.op→Cert P c env H rd wr v H') (hk:VQ acc o.ord rd wr=true)
  (h:Ax P R Λ (.dops los (n+1) (XQ n rd wr acc)::k) (putE env o.dst v) H'):Ax P R Λ (.dops (o::los) n acc::k) env H:=fun s ops l t ords accF hl hidx hn hv ha hm=>by
 obtain⟨c,r,rfl,g1,g2,g3,g4,g5⟩:=UE hl
 have h0:ops[n]? = some c:=by simpa using (hidx 0).symm
 rw[g4]at hk
 refine⟨rd,wr,v,H',.inr ⟨(Kq g3).trans hg,hc c g1⟩,conf_ok hn h0 hv ha hk,?_⟩
 rw[g2]at h
 exact h s ops r t _ _ g5 (fun j=>by have:=hidx (j+1);simpa [Nat.add_assoc,Nat.add_comm 1 j]using this) (by simp [hn]) (NM hn h0 hv) (QDG ha) hm
theorem ax_dOp {o:DO}{los:List DO}{n:Nat}{acc:List Fp}{e:Eff}{v:AV}{H':Heap}(hg:gd o.guard env=some true) (he:eff o.op (evA env) (o.dst.getD 0)=e) (hx:e.exec H=some (v,H')) (hk:VQ acc o.ord e.rds e.wrs=true)
  (h:Ax P R Λ (.dops los (n+1) (XQ n e.rds e.wrs acc)::k) (putE env o.dst v) H'):Ax P R Λ (.dops (o::los) n acc::k) env H:=by
 subst he
 exact QAM hg (fun c hl=>cert_eff hl hx) hk h
theorem QAL {o:DO}{los:List DO}{n:Nat}{acc:List Fp}(hg:gd o.guard env=some false) (h:Ax P R Λ (.dops los (n+1) acc::k) (putE env o.dst (.tup [])) H):Ax P R Λ (.dops (o::los) n acc::k) env H:=fun s ops l t ords accF hl hidx hn hv ha hm=>by
 obtain⟨c,r,rfl,g1,g2,g3,g4,g5⟩:=UE hl
 have h0:ops[n]? = some c:=by simpa using (hidx 0).symm
 refine⟨[],[],.tup [],H,.inl ⟨(Kq g3).trans hg,rfl,rfl,rfl,rfl⟩,fun f hf _=>by simp [Fp.ok,disj],?_⟩
 rw[g2]at h
 exact h s ops r t _ _ g5 (fun j=>by have:=hidx (j+1);simpa [Nat.add_assoc,Nat.add_comm 1 j]using this) (by simp [hn]) (NM hn h0 hv) (QDG (n:=n) (rd:=[]) (wr:=[]) ha) hm
theorem WY {o:DO}{los:List DO}{n:Nat}{acc:List Fp}{f:Operand}{args:List Operand}{rd wr:List Nat}{v:AV}{H':Heap}(ho:o.op=.call f args) (hg:gd o.guard env=some true) (hfr:∀ id,id∉wr→H' id=H id)
  (hc:∀ H2:Heap,(∀ id∈rd,H2 id=H id)→(∀ id∈wr,H2 id=H id)→ACallV P (evA env f) (args.map (evA env)) H2 (fun r H''=>r=v∧H''=mix wr H' H2)) (hk:VQ acc o.ord rd wr=true)
  (h:Ax P R Λ (.dops los (n+1) (XQ n rd wr acc)::k) (putE env o.dst v) H'):Ax P R Λ (.dops (o::los) n acc::k) env H:=by
 refine QAM hg (fun c hl=>⟨hfr,fun env2 H2 h1 h2 h3 G Z w a st he=> ?_⟩) hk h
 rw[ho]at hl
 obtain⟨cl,g1,g2,g3⟩:=Wx hl
 have hmem:∀ t,.tmp t∈f::args→ .tmp t∈c.op.operands:=fun t ht=>ZW hl t (by simpa [LOp.opnds]using ht)
 have e1:evA env2 f=evA env f:=WP (l:=f::args) (fun t ht=>h1 t (hmem t ht)) f (by simp)
 have e2:args.map (evA env2)=args.map (evA env):=List.map_congr_left fun x hx=>WP (l:=f::args) (fun t ht=>h1 t (hmem t ht)) x (by simp [hx])
 refine call_to st he g1 g2 ?_
 rw[g3,e1,e2]
 exact hc H2 h2 h3

inductive LRes where
 | tmp (t:Nat)
 | cell (t:Nat) (n:Option Nat)
structure Qi where
 code:Yl
 ntmps:Nat
 res:List LRes
def KH (P:Program):List ResultVar→Option (List LRes)
 | []=>some []
 | .tmp t::l=>(KH P l).map (.tmp t::·)
 | .cell a t::l=>match QAf P t,KH P l with
  | some n,some r=>some (.cell a n::r)
  | _,_=>none
def lowF (P:Program) (f:FuncId):Option Qi:=match P.funcs[f]? with
 | some fn=>if fn.name == "runtime.NumGoroutine" then none else match fn.body with
  | some c=>match lowC P c,KH P fn.results.toList with
   | some lc,some r=>some ⟨lc,fn.ntmps,r⟩
   | _,_=>none
  | none=>none
 | none=>none
def resA (env:Env) (H:Heap):List LRes→Option (List AV)
 | []=>some []
 | .tmp t::l=>match resA env H l with
  | some r=>some (env.f t::r)
  | none=>none
 | .cell t n::l=>match (eff (.load n (.tmp t)) (evA env) 0).exec H,resA env H l with
  | some (v,_),some r=>some (v::r)
  | _,_=>none
def QI:List AV→AV
 | [a]=>a
 | l=> .tup l
def FCall (P:Program) (f:FuncId) (args:List AV) (H0:Heap) (Q:AV→Heap→Prop):Prop:=
 Jt P f=true∧∀ (G:QM) (Z:Nat→Prop) (w:World) (vs:Array Value),St P G H0 Z w→vs.size=args.length→(∀ (j:Nat) (a:AV) (v:Value),args[j]? = some a→vs[j]? = some v→RepA G Z w a v)→
  Calls P f vs w fun e w'=>∃ v r H' G' Z',e=.returned v∧Q r H'∧St P G' H' Z' w'∧Hist G Z w G' Z' w'∧RepA G' Z' w' r v
theorem FCall.mono {f:FuncId}{args:List AV}{Q Q':AV→Heap→Prop}(h:FCall P f args H Q) (hq:∀ r H',Q r H'→Q' r H'):FCall P f args H Q':=
 ⟨h.1,fun G Z w vs h1 h2 h3=>(h.2 G Z w vs h1 h2 h3).mono fun e w' ⟨v,r,H',G',Z',e1,e2,e3⟩=>⟨v,r,H',G',Z',e1,hq _ _ e2,e3⟩⟩
def MV (tmps:Array Value) (r:ResultVar):Sem Value:=match r with
 | .tmp t=>pure (tmps.getD t undef)
 | .cell b t=>do loadVar t (← asAddr (tmps.getD b undef))
theorem res_ok {G:QM}{Z:Nat→Prop}{w:World}{a:Act}(st:St P G H Z w) (he:EnvR G Z w env a.tmps):∀ (rs:List ResultVar) (lrs:List LRes) (l:List AV),KH P rs=some lrs→resA env H lrs=some l→
  ∃ vs:List Value,(rs.mapM (MV a.tmps)).run P w=.ok vs w∧vs.length=l.length∧∀ (j:Nat) (x:AV) (u:Value),l[j]? = some x→vs[j]? = some u→RepA G Z w x u
 | [],lrs,l,h1,h2=>by
  simp only[KH,Option.some.injEq]at h1
  subst h1
  simp only[resA,Option.some.injEq]at h2
  subst h2
  exact⟨[],by simp,rfl,fun j x u h=>by simp at h⟩
 | .tmp t::rs,lrs,l,h1,h2=>by
  simp only[KH]at h1
  obtain⟨lr,h3,rfl⟩:=Option.map_eq_some_iff.1 h1
  simp only[resA]at h2
  split at h2
  case h_2=>cases h2
  rename_i r hr
  obtain rfl:=Option.some.inj h2
  obtain⟨vs,g1,g2,g3⟩:=res_ok st he rs lr r h3 hr
  have h0:(MV a.tmps (.tmp t)).run P w=.ok (a.tmps.getD t undef) w:=rfl
  refine⟨a.tmps.getD t undef::vs,by simp only[List.mapM_cons,Sem.run_bind,h0,Result.andThen_ok,g1,Sem.run_pure],by simp [g2],fun j x u hx hu=> ?_⟩
  cases j with
  | zero=>
   simp only[List.getElem?_cons_zero,Option.some.injEq]at hx hu
   subst hx hu
   exact he.eval (.tmp t)
  | succ j=>exact g3 j x u (by simpa using hx) (by simpa using hu)
 | .cell b t::rs,lrs,l,h1,h2=>by
  simp only[KH]at h1
  split at h1
  case h_2=>cases h1
  rename_i n lr hn h3
  obtain rfl:=Option.some.inj h1
  simp only[resA]at h2
  split at h2
  case h_2=>cases h2
  rename_i v H1 r hx hr
  obtain rfl:=Option.some.inj h2
  obtain⟨vs,g1,g2,g3⟩:=res_ok st he rs lr r h3 hr
  obtain⟨u,k1,k2,_⟩:=load_ok st (fun x=>he.eval x) t n (.tmp b) hn hx
  have h0:(MV a.tmps (.cell b t)).run P w=.ok u w:=by
   have e:a.eval (.tmp b)=a.tmps.getD b undef:=rfl
   rw[e]at k1
   unfold MV
   simp only
   cases hv:a.tmps.getD b undef<;>rw[hv]at k1<;>try (simp [Instr.loadAt,Instr.sureAddr,stuck,Sem.run]at k1;done)
   rename_i p
   cases p with
   | none=>simp [Instr.loadAt,Instr.sureAddr,stuck,Sem.run]at k1
   | some p=>
    simp only[Instr.loadAt,Instr.sureAddr,pure_bind]at k1
    simp only[hv,asAddr,pure_bind]
    exact k1
  refine⟨u::vs,by simp only[List.mapM_cons,Sem.run_bind,h0,Result.andThen_ok,g1,Sem.run_pure],by simp [g2],fun j x u' hx hu=> ?_⟩
  cases j with
  | zero=>
   simp only[List.getElem?_cons_zero,Option.some.injEq]at hx hu
   subst hx hu
   exact k2
  | succ j=>exact g3 j x u' (by simpa using hx) (by simpa using hu)
theorem QDS {G:QM}{Z:Nat→Prop}{w:World}{a:Act}{fn:Func}(st:St P G H Z w) (he:EnvR G Z w env a.tmps){lrs:List LRes}{l:List AV}(h1:KH P fn.results.toList=some lrs) (h2:resA env H lrs=some l) :
  ∃ v,(results fn a.tmps).run P w=.ok v w∧RepA G Z w (QI l) v:=by
 obtain⟨vs,g1,g2,g3⟩:=res_ok st he _ _ _ h1 h2
 have e:results fn a.tmps=(do let vs ← fn.results.mapM (MV a.tmps);pure (if h:vs.size=1 then vs[0]else .tuple vs)):=rfl
 have hrun:(fn.results.mapM (MV a.tmps)).run P w=.ok vs.toArray w:=by
  rw[Array.mapM_eq_mapM_toList]
  simp [g1]
 rw[e,Sem.run_bind,hrun,Result.andThen_ok,Sem.run_pure]
 refine⟨_,rfl,?_⟩
 rcases l with _|⟨x,_|⟨y,l⟩⟩
 ·obtain rfl:vs = []:=List.eq_nil_of_length_eq_zero g2
  exact .tup _ _ rfl fun j x u h=>by simp at h
 ·rcases vs with _|⟨u,_|⟨u2,vs⟩⟩
  ·simp at g2
  ·exact g3 0 x u rfl rfl
  ·simp at g2
 ·have hsz : ¬ vs.toArray.size=1:=by simp [g2]
  rw[dif_neg hsz]
  exact .tup _ _ (by simpa using g2) fun j x u hx hu=>g3 j x u hx (by simpa using hu)
def argsF:Nat→List AV→Nat→AV
 | _,[]=>fun _=> .any
 | i,a::l=>upd (argsF (i+1) l) i a
def argsE (n:Nat) (args:List AV):Env:=⟨n,argsF 0 args⟩
theorem MF:∀ (l:List AV) (i j:Nat),(j<i→argsF i l j=.any)∧(i≤j→argsF i l j=l.getD (j - i) .any)
 | [],i,j=>⟨fun _=>rfl,fun _=>rfl⟩
 | a::l,i,j=>by
  obtain⟨h1,h2⟩:=MF l (i+1) j
  refine⟨fun h=> ?_,fun h=> ?_⟩
  ·rw[argsF,QL _ _ _ _ (by omega)];exact h1 (by omega)
  ·by_cases e:j=i
   ·subst e;rw[argsF,upd_same,Nat.sub_self];rfl
   ·rw[argsF,QL _ _ _ _ e,h2 (by omega),show j - i=(j - (i+1))+1 by omega];rfl
theorem FCall.of_ax {f:FuncId}{lf:Qi}{args:List AV}{Q:AV→Heap→Prop}(hl:lowF P f=some lf)
  (h:Ax P (fun env H=>match resA env H lf.res with|some l=>Q (QI l) H|none=>False) [] [.code lf.code] (argsE (max lf.ntmps args.length) args) H):FCall P f args H Q:=by
 unfold lowF at hl
 split at hl
 case h_2=>cases hl
 rename_i fn hfn
 split at hl
 case isTrue=>cases hl
 rename_i hname
 split at hl
 case h_2=>cases hl
 rename_i c hc
 split at hl
 case h_2=>cases hl
 rename_i lc r hlc hr
 obtain rfl:=Option.some.inj hl
 simp only at h
 refine⟨by simp only[Jt,hfn,hc,Option.isSome_some,Bool.and_true];simpa using hname,fun G Z w vs st hsz hrep cs=> ?_⟩
 let b:Frame:={ (default:Frame)with fn:=f,kind:= .normal }
 have henter:Frame.enter P f vs .normal=b.at { tmps:=vs++Array.replicate (fn.ntmps - vs.size) undef,defers:=[] } [.code c]:=by
  simp [Frame.enter,Frame.at,hfn,hc,b]
 have hsim:Sim P ⟨G,Z,w⟩ (argsE (max fn.ntmps args.length) args) H { tmps:=vs++Array.replicate (fn.ntmps - vs.size) undef,defers:=[] } w:=by
  refine⟨G,Z,st,⟨by simp only[argsE,Array.size_append,Array.size_replicate,hsz];omega,fun i hi=> ?_,fun i v hv=> ?_⟩,rfl,Hist.refl _ _ _⟩
  ·simp only[argsE]at hi ⊢
   rw[(MF args 0 i).2 (Nat.zero_le _),List.getD_eq_getElem?_getD,List.getElem?_eq_none (by omega)];rfl
  ·simp only[argsE]
   rw[(MF args 0 i).2 (Nat.zero_le _),Nat.sub_zero,List.getD_eq_getElem?_getD]
   rcases Nat.lt_or_ge i args.length with hi|hi
   ·rw[Array.getElem?_append_left (by omega)]at hv
    rw[List.getElem?_eq_getElem hi]
    exact hrep i _ v (List.getElem?_eq_getElem hi) hv
   ·rw[List.getElem?_eq_none hi]
    exact .any _
 obtain⟨m,a',w',t',h1,h23⟩:=(h.go (s:=⟨G,Z,w⟩) (.code hlc .nil) hsim) b cs
 cases m with
 | some v=>
  obtain⟨h2,h3,_⟩:=h23
  have e:∀ (n n':Nat) (g:Nat→AV) (K:Heap) (l:List LRes),resA ⟨n,g⟩ K l=resA ⟨n',g⟩ K l:=fun n n' g K l=>by
   induction l with
   | nil=>rfl
   | cons x l ih=>cases x<;>simp only[resA,ih]<;>rfl
  have h4:=h2 ⟨0,(panE v).f⟩ (fun _=>(0,none)) (by
   simp only[e 0 panN]
   exact h3)
  exact absurd (show(0:Nat)=panN from h4) (by decide)
 | none=>
 obtain⟨env',H',h2,h3⟩:=h23
 obtain⟨G',Z',st',he',hd',hh'⟩:=h3
 split at h2
 case h_2=>exact h2.elim
 rename_i l hres
 obtain⟨v,k1,k2⟩:=QDS (fn:=fn) st' he' hr hres
 rw[← henter]at h1
 exact⟨.returned v,w',_,⟨v,_,H',G',Z',rfl,h2,st',hh',k2⟩,h1,rfl,rfl,hd',rfl,fn,hfn,k1⟩
end
section
variable (P:Program) (R:Env→Heap→Prop)
def MN (go:Lams→List It→Env→Heap→Prop) (c:AV) (Λ : Lams) (a b:Yl) (k:List It) (env:Env) (H:Heap):Prop:=match c with
 | .f (.bool true)=>go Λ (.code a::k) env H
 | .f (.bool false)=>go Λ (.code b::k) env H
 | .f .bit=>go Λ (.code a::k) env H∧go Λ (.code b::k) env H
 | _=>False
def Zu (go:Lams→List It→Env→Heap→Prop) (x:Option (AV × Heap)) (Λ : Lams) (d:Option Nat) (l:List LO) (k:List It) (env:Env):Prop:=match x with
 | some (v,H')=>go Λ (.ops l::k) (putE env d v) H'
 | none=>False
def Xt (go:Lams→List It→Env→Heap→Prop) (g:AV) (want:Bool) (Λ : Lams) (d:Option Nat) (op:LOp) (l:List LO) (k:List It) (env:Env) (H:Heap):Prop:=match g with
 | .f (.bool b)=>if b=want then Zu go ((eff op (evA env) (d.getD 0)).exec H) Λ d l k env else go Λ (.ops l::k) (putE env d (.tup [])) H
 | .tup []=>go Λ (.ops l::k) (putE env d (.tup [])) H
 | _=>False
def Zv (go:Lams→List It→Env→Heap→Prop) (x:Option (AV × Heap)) (ok:Bool) (Λ : Lams) (d:Option Nat) (l:List DO) (j:Nat) (acc:List Fp) (k:List It) (env:Env):Prop:=match x with
 | some (v,H')=>ok=true∧go Λ (.dops l j acc::k) (putE env d v) H'
 | none=>False
def Xu (go:Lams→List It→Env→Heap→Prop) (g:AV) (want:Bool) (Λ : Lams) (d:Option Nat) (op:LOp) (od:List Nat) (l:List DO) (j:Nat) (acc:List Fp) (k:List It) (env:Env) (H:Heap):Prop:=match g with
 | .f (.bool b)=>if b=want then Zv go ((eff op (evA env) (d.getD 0)).exec H) (VQ acc od (eff op (evA env) (d.getD 0)).rds (eff op (evA env) (d.getD 0)).wrs) Λ d l (j+1) (XQ j (eff op (evA env) (d.getD 0)).rds (eff op (evA env) (d.getD 0)).wrs acc) k env
  else go Λ (.dops l (j+1) acc::k) (putE env d (.tup [])) H
 | .tup []=>go Λ (.dops l (j+1) acc::k) (putE env d (.tup [])) H
 | _=>False
def exitS (go:Lams→List It→Env→Heap→Prop) (p:Option (Lams × List It)) (env:Env) (H:Heap):Prop:=match p with
 | some (Λ',k')=>go Λ' k' env H
 | none=>False
def YL (go:Lams→List It→Env→Heap→Prop):Lams→List It→Env→Heap→Prop
 | Λ,[],env,H=>R env H
 | Λ,.code .skip::k,env,H=>go Λ k env H
 | Λ,.code (.seq a b)::k,env,H=>go Λ (.code a:: .code b::k) env H
 | Λ,.code (.block id c)::k,env,H=>go Λ (.code c:: .blk id::k) env H
 | Λ,.blk id::k,env,H=>go Λ k env H
 | Λ,.code .ret::k,env,H=>R env H
 | Λ,.code (.exit id)::k,env,H=>exitS go (JB id Λ k) env H
 | Λ,.code (.cond c a b)::k,env,H=>MN go (evA env c) Λ a b k env H
 | Λ,.code (.reg l)::k,env,H=>go Λ (.ops l::k) env H
 | Λ,.code (.draw l)::k,env,H=>go Λ (.dops l 0 []::k) env H
 | Λ,.ops []::k,env,H=>go Λ k env H
 | Λ,.ops (⟨d,.call f args,g⟩::l)::k,env,H=>Ax P R Λ (.ops (⟨d,.call f args,g⟩::l)::k) env H
 | Λ,.ops (⟨d,.cap x,g⟩::l)::k,env,H=>Ax P R Λ (.ops (⟨d,.cap x,g⟩::l)::k) env H
 | Λ,.ops (⟨d,.ext j x,g⟩::l)::k,env,H=>Ax P R Λ (.ops (⟨d,.ext j x,g⟩::l)::k) env H
 | Λ,.ops (⟨d,op,none⟩::l)::k,env,H=>Zu go ((eff op (evA env) (d.getD 0)).exec H) Λ d l k env
 | Λ,.ops (⟨d,op,some (s,want)⟩::l)::k,env,H=>Xt go (env.f s) want Λ d op l k env H
 | Λ,.dops [] j acc::k,env,H=>go Λ k env H
 | Λ,.dops (⟨d,.call f args,g,od⟩::l) j acc::k,env,H=>Ax P R Λ (.dops (⟨d,.call f args,g,od⟩::l) j acc::k) env H
 | Λ,.dops (⟨d,.cap x,g,od⟩::l) j acc::k,env,H=>Ax P R Λ (.dops (⟨d,.cap x,g,od⟩::l) j acc::k) env H
 | Λ,.dops (⟨d,.ext i x,g,od⟩::l) j acc::k,env,H=>Ax P R Λ (.dops (⟨d,.ext i x,g,od⟩::l) j acc::k) env H
 | Λ,.dops (⟨d,op,none,od⟩::l) j acc::k,env,H=>Zv go ((eff op (evA env) (d.getD 0)).exec H) (VQ acc od (eff op (evA env) (d.getD 0)).rds (eff op (evA env) (d.getD 0)).wrs) Λ d l (j+1) (XQ j (eff op (evA env) (d.getD 0)).rds (eff op (evA env) (d.getD 0)).wrs acc) k env
 | Λ,.dops (⟨d,op,some (s,want),od⟩::l) j acc::k,env,H=>Xu go (env.f s) want Λ d op od l j acc k env H
 | L::Λ,.again::k,env,H=>L env H
 | [],.again::k,env,H=>False
 | Λ,.code (.loop c)::k,env,H=>Ax P R Λ (.code (.loop c)::k) env H
def srun:Nat→Lams→List It→Env→Heap→Prop
 | 0,Λ,k,env,H=>Ax P R Λ k env H
 | n+1,Λ,k,env,H=>YL P R (srun n) Λ k env H
end

section
variable {P:Program}{R:Env→Heap→Prop}
theorem gd_of {env:Env}{s:Nat}{want b:Bool}(h:env.f s=.f (.bool b)):gd (some (s,want)) env=some (b == want):=by
 simp only[gd,h]
theorem gd_tup {env:Env}{s:Nat}{want:Bool}(h:env.f s=.tup []):gd (some (s,want)) env=some false:=by
 simp only[gd,h]
theorem QP:∀ (n:Nat) (Λ : Lams) (k:List It) (env:Env) (H:Heap),srun P R n Λ k env H→Ax P R Λ k env H:=by
 intro n
 induction n with
 | zero=>intro Λ k env H h;exact h
 | succ n ih=>
  intro Λ k env H h
  have hex:∀ {d:Option Nat}{op:LOp}{g:Option (Nat × Bool)}{l:List LO}{k:List It},gd g env=some true→Zu (srun P R n) ((eff op (evA env) (d.getD 0)).exec H) Λ d l k env→Ax P R Λ (.ops (⟨d,op,g⟩::l)::k) env H:=by
   intro d op g l k hg h
   unfold Zu at h
   split at h
   ·rename_i v H' hx;exact ax_op hg hx (ih _ _ _ _ h)
   ·exact h.elim
  have hexD:∀ {d:Option Nat}{op:LOp}{g:Option (Nat × Bool)}{od:List Nat}{l:List DO}{j:Nat}{acc:List Fp}{k:List It},gd g env=some true→
    Zv (srun P R n) ((eff op (evA env) (d.getD 0)).exec H) (VQ acc od (eff op (evA env) (d.getD 0)).rds (eff op (evA env) (d.getD 0)).wrs) Λ d l (j+1) (XQ j (eff op (evA env) (d.getD 0)).rds (eff op (evA env) (d.getD 0)).wrs acc) k env→Ax P R Λ (.dops (⟨d,op,g,od⟩::l) j acc::k) env H:=by
   intro d op g od l j acc k hg h
   unfold Zv at h
   split at h
   ·rename_i v H' hx;exact ax_dOp hg rfl hx h.1 (ih _ _ _ _ h.2)
   ·exact h.elim
  simp only[srun]at h
  unfold YL at h
  split at h
  ·exact ax_nil h
  ·exact ax_skip (ih _ _ _ _ h)
  ·exact ax_seq (ih _ _ _ _ h)
  ·exact ax_block (ih _ _ _ _ h)
  ·exact ax_blk (ih _ _ _ _ h)
  ·exact ax_ret h
  ·unfold exitS at h
   split at h
   ·rename_i e;exact ax_exit e (ih _ _ _ _ h)
   ·exact h.elim
  ·unfold MN at h
   split at h
   ·rename_i e;exact ax_cond e (fun _=>ih _ _ _ _ h) (fun hb=>by cases hb)
   ·rename_i e;exact ax_cond e (fun hb=>by cases hb) (fun _=>ih _ _ _ _ h)
   ·rename_i e;exact QDt e (ih _ _ _ _ h.1) (ih _ _ _ _ h.2)
   ·exact h.elim
  ·exact ax_reg (ih _ _ _ _ h)
  ·exact ax_draw (ih _ _ _ _ h)
  ·exact ax_opsNil (ih _ _ _ _ h)
  ·exact h
  ·exact h
  ·exact h
  ·exact hex rfl h
  ·unfold Xt at h
   split at h
   ·rename_i b e
    split at h
    ·rename_i hb;exact hex (by rw[gd_of e,hb];simp) h
    ·rename_i hb;exact MC (by rw[gd_of e];simp [hb]) (ih _ _ _ _ h)
   ·rename_i e;exact MC (gd_tup e) (ih _ _ _ _ h)
   ·exact h.elim
  ·exact ax_dNil (ih _ _ _ _ h)
  ·exact h
  ·exact h
  ·exact h
  ·exact hexD rfl h
  ·unfold Xu at h
   split at h
   ·rename_i b e
    split at h
    ·rename_i hb;exact hexD (by rw[gd_of e,hb];simp) h
    ·rename_i hb;exact QAL (by rw[gd_of e];simp [hb]) (ih _ _ _ _ h)
   ·rename_i e;exact QAL (gd_tup e) (ih _ _ _ _ h)
   ·exact h.elim
  ·exact ax_again h
  ·exact h.elim
  ·exact h
end

section
variable {go:Lams→List It→Env→Heap→Prop}{Λ Λ':Lams}{a b:Yl}{k k':List It}{env:Env}{H H':Heap}{d:Option Nat}{l:List LO}{ld:List DO}{v:AV}{op:LOp}{j:Nat}{acc:List Fp}{od:List Nat}{ok:Bool}
theorem condS_true:MN go (.f (.bool true)) Λ a b k env H=go Λ (.code a::k) env H:=rfl
theorem condS_bit:MN go (.f .bit) Λ a b k env H=(go Λ (.code a::k) env H∧go Λ (.code b::k) env H):=rfl
theorem condS_false:MN go (.f (.bool false)) Λ a b k env H=go Λ (.code b::k) env H:=rfl
theorem execS_some:Zu go (some (v,H')) Λ d l k env=go Λ (.ops l::k) (putE env d v) H':=rfl
theorem QB3 {x want:Bool} : Xt go (.f (.bool x)) want Λ d op l k env H=if x=want then Zu go ((eff op (evA env) (d.getD 0)).exec H) Λ d l k env else go Λ (.ops l::k) (putE env d (.tup [])) H:=rfl
theorem guardS_tt:Xt go (.f (.bool true)) true Λ d op l k env H=Zu go ((eff op (evA env) (d.getD 0)).exec H) Λ d l k env:=rfl
theorem guardS_ff:Xt go (.f (.bool false)) false Λ d op l k env H=Zu go ((eff op (evA env) (d.getD 0)).exec H) Λ d l k env:=rfl
theorem guardS_tf:Xt go (.f (.bool true)) false Λ d op l k env H=go Λ (.ops l::k) (putE env d (.tup [])) H:=rfl
theorem guardS_ft:Xt go (.f (.bool false)) true Λ d op l k env H=go Λ (.ops l::k) (putE env d (.tup [])) H:=rfl
theorem execD_some:Zv go (some (v,H')) true Λ d ld j acc k env=go Λ (.dops ld j acc::k) (putE env d v) H':=by simp [Zv]
theorem guardD_tt:Xu go (.f (.bool true)) true Λ d op od ld j acc k env H=Zv go ((eff op (evA env) (d.getD 0)).exec H) (VQ acc od (eff op (evA env) (d.getD 0)).rds (eff op (evA env) (d.getD 0)).wrs) Λ d ld (j+1) (XQ j (eff op (evA env) (d.getD 0)).rds (eff op (evA env) (d.getD 0)).wrs acc) k env:=rfl
theorem guardD_ff:Xu go (.f (.bool false)) false Λ d op od ld j acc k env H=Zv go ((eff op (evA env) (d.getD 0)).exec H) (VQ acc od (eff op (evA env) (d.getD 0)).rds (eff op (evA env) (d.getD 0)).wrs) Λ d ld (j+1) (XQ j (eff op (evA env) (d.getD 0)).rds (eff op (evA env) (d.getD 0)).wrs acc) k env:=rfl
theorem guardD_tf:Xu go (.f (.bool true)) false Λ d op od ld j acc k env H=go Λ (.dops ld (j+1) acc::k) (putE env d (.tup [])) H:=rfl
theorem guardD_ft:Xu go (.f (.bool false)) true Λ d op od ld j acc k env H=go Λ (.dops ld (j+1) acc::k) (putE env d (.tup [])) H:=rfl
theorem guardS_tup {want:Bool} : Xt go (.tup []) want Λ d op l k env H=go Λ (.ops l::k) (putE env d (.tup [])) H:=rfl
theorem guardD_tup {want:Bool} : Xu go (.tup []) want Λ d op od ld j acc k env H=go Λ (.dops ld (j+1) acc::k) (putE env d (.tup [])) H:=rfl
theorem exitS_some:exitS go (some (Λ',k')) env H=go Λ' k' env H:=rfl
theorem putE_some {n d:Nat}{f:Nat→AV}(h:decide (d<n)=true):putE ⟨n,f⟩ (some d) v=⟨n,upd f d v⟩:=by simp only[putE,if_pos (of_decide_eq_true h)]
theorem putE_none:putE env none v=env:=rfl
theorem upd_get {α : Type}{f:Nat→α}{i j:Nat}{x : α} : upd f i x j=if j=i then x else f j:=rfl
theorem pickA_true {x y:AV} : QAp true x y=x:=by unfold QAp;split<;>rfl
theorem pickA_false {x y:AV} : QAp false x y=y:=by unfold QAp;split<;>rfl
theorem pickA_bool {c x y:Bool} : QAp c (.f (.bool x)) (.f (.bool y))=.f (.bool (if c then x else y)):=rfl
theorem popTo_blk {id id':Nat} : JB id Λ (.blk id'::k)=if id'=id then some (Λ,k)else JB id Λ k:=by
 cases Λ<;>rfl
theorem popTo_again {id:Nat}{L:Env→Heap→Prop} : JB id (L::Λ) (.again::k)=JB id Λ k:=rfl
theorem popTo_code {id:Nat}{c:Yl} : JB id Λ (.code c::k)=JB id Λ k:=by
 cases Λ<;>rfl
theorem condS_split {x:Bool}(h1:x=true→go Λ (.code a::k) env H) (h2:x=false→go Λ (.code b::k) env H):MN go (.f (.bool x)) Λ a b k env H:=by
 cases x
 ·exact h2 rfl
 ·exact h1 rfl
end

open Go.RowKit
set_option linter.unusedVariables false
set_option linter.unusedSimpArgs false

section
variable {P:Program}{R:Env→Heap→Prop}{go:Lams→List It→Env→Heap→Prop}{Λ : Lams}{L:Env→Heap→Prop}{k:List It}{env:Env}{H:Heap}{a b c:Yl}{id n j:Nat}{l:List LO}{dl:List DO}{d:Option Nat}{op:LOp}{s:Nat}{want:Bool}{acc:List Fp}{od:List Nat}{o:Operand}{f:Operand}{args:List Operand}{g:Option (Nat × Bool)}
theorem srun_s:srun P R (n+1) Λ k env H=YL P R (srun P R n) Λ k env H:=rfl
theorem srun_0:srun P R 0 Λ k env H=Ax P R Λ k env H:=rfl
theorem st_nil:YL P R go Λ [] env H=R env H:=by cases Λ<;>rfl
theorem st_skip:YL P R go Λ (.code .skip::k) env H=go Λ k env H:=by cases Λ<;>rfl
theorem st_seq:YL P R go Λ (.code (.seq a b)::k) env H=go Λ (.code a:: .code b::k) env H:=by cases Λ<;>rfl
theorem st_block:YL P R go Λ (.code (.block id c)::k) env H=go Λ (.code c:: .blk id::k) env H:=by cases Λ<;>rfl
theorem st_blk:YL P R go Λ (.blk id::k) env H=go Λ k env H:=by cases Λ<;>rfl
theorem st_ret:YL P R go Λ (.code .ret::k) env H=R env H:=by cases Λ<;>rfl
theorem st_exit:YL P R go Λ (.code (.exit id)::k) env H=exitS go (JB id Λ k) env H:=by cases Λ<;>rfl
theorem st_cond:YL P R go Λ (.code (.cond o a b)::k) env H=MN go (evA env o) Λ a b k env H:=by cases Λ<;>rfl
theorem st_reg:YL P R go Λ (.code (.reg l)::k) env H=go Λ (.ops l::k) env H:=by cases Λ<;>rfl
theorem st_draw:YL P R go Λ (.code (.draw dl)::k) env H=go Λ (.dops dl 0 []::k) env H:=by cases Λ<;>rfl
theorem st_opsNil:YL P R go Λ (.ops []::k) env H=go Λ k env H:=by cases Λ<;>rfl
theorem st_dNil:YL P R go Λ (.dops [] j acc::k) env H=go Λ k env H:=by cases Λ<;>rfl
theorem st_call:YL P R go Λ (.ops (⟨d,.call f args,g⟩::l)::k) env H=Ax P R Λ (.ops (⟨d,.call f args,g⟩::l)::k) env H:=by cases Λ<;>rfl
theorem st_dCall:YL P R go Λ (.dops (⟨d,.call f args,g,od⟩::dl) j acc::k) env H=Ax P R Λ (.dops (⟨d,.call f args,g,od⟩::dl) j acc::k) env H:=by cases Λ<;>rfl
theorem st_cap {x:Operand} : YL P R go Λ (.ops (⟨d,.cap x,g⟩::l)::k) env H=Ax P R Λ (.ops (⟨d,.cap x,g⟩::l)::k) env H:=by cases Λ<;>rfl
theorem st_ext {i:Nat}{x:Operand} : YL P R go Λ (.ops (⟨d,.ext i x,g⟩::l)::k) env H=Ax P R Λ (.ops (⟨d,.ext i x,g⟩::l)::k) env H:=by cases Λ<;>rfl
theorem st_op (h:op.isCall=false):YL P R go Λ (.ops (⟨d,op,none⟩::l)::k) env H=Zu go ((eff op (evA env) (d.getD 0)).exec H) Λ d l k env:=by cases op<;>first|(cases Λ<;>rfl)|cases h
theorem st_opG (h:op.isCall=false):YL P R go Λ (.ops (⟨d,op,some (s,want)⟩::l)::k) env H=Xt go (env.f s) want Λ d op l k env H:=by cases op<;>first|(cases Λ<;>rfl)|cases h
theorem st_d (h:op.isCall=false):YL P R go Λ (.dops (⟨d,op,none,od⟩::dl) j acc::k) env H=Zv go ((eff op (evA env) (d.getD 0)).exec H) (VQ acc od (eff op (evA env) (d.getD 0)).rds (eff op (evA env) (d.getD 0)).wrs) Λ d dl (j+1) (XQ j (eff op (evA env) (d.getD 0)).rds (eff op (evA env) (d.getD 0)).wrs acc) k env:=by cases op<;>first|(cases Λ<;>rfl)|cases h
theorem st_dG (h:op.isCall=false):YL P R go Λ (.dops (⟨d,op,some (s,want),od⟩::dl) j acc::k) env H=Xu go (env.f s) want Λ d op od dl j acc k env H:=by cases op<;>first|(cases Λ<;>rfl)|cases h
theorem st_again:YL P R go (L::Λ) (.again::k) env H=L env H:=rfl
theorem st_loop:YL P R go Λ (.code (.loop c)::k) env H=Ax P R Λ (.code (.loop c)::k) env H:=by cases Λ<;>rfl
end

section
variable {env:Env}{t:Nat}{f:FuncId}{k:IntKind}{n:Int}{b:Bool}{s:ByteArray}{cs:Array Value}
theorem ev_tmp:evA env (.tmp t)=env.f t:=rfl
theorem ev_func:evA env (.func f)=.f (.fn (.func f)):=rfl
theorem ev_int:evA env (.const (.int k n))=.f (.int k n):=rfl
theorem ev_bool:evA env (.const (.bool b))=.f (.bool b):=rfl
theorem ev_str:evA env (.const (.string s))=.f (.str s):=rfl
theorem ev_nil:evA env (.const (.slice none 0 0))=.f .nil:=rfl
theorem ev_ptr:evA env (.const (.pointer none))=.f (.lit (.pointer none)):=rfl
theorem ev_map:evA env (.const (.map none))=.f (.lit (.map none)):=rfl
theorem ev_agg:evA env (.const (.agg cs))=if cs.toList.all (·.oneCell')then .agg (cs.toList.map fun c=> .f (FV.ofValue c))else .f (.lit (.agg cs)):=rfl
theorem of_int:FV.ofValue (.int k n)=.int k n:=rfl
theorem of_bool:FV.ofValue (.bool b)=.bool b:=rfl
theorem of_str:FV.ofValue (.string s)=.str s:=rfl
theorem of_nil:FV.ofValue (.slice none 0 0)=.nil:=rfl
theorem of_ptr:FV.ofValue (.pointer none)=.lit (.pointer none):=rfl
end

def rdX (x:Option AV) (H:Heap):Option (AV × Heap):=match x with
 | some v=>some (v,H)
 | none=>none
def mdX (x:Option (AV × (Nat × Option AObj))) (id:Nat) (H:Heap):Option (AV × Heap):=match x with
 | some (v,y)=>some (v,upd H id y)
 | none=>none
def newX (o:Nat × Option AObj) (id:Nat) (v:Nat→AV) (cs:List AV) (H:Heap):Option (AV × Heap):=match o with
 | (ver,none)=>some (v (ver+1),upd H id (ver+1,some (.cells cs)))
 | _=>none
section
variable {H:Heap}{id src ver:Nat}{v:AV}{y:Nat × Option AObj}{f:Nat→AV}{cs:List AV}{k:Nat × Option AObj→Option AV}{k2:Nat × Option AObj→Option (AV × (Nat × Option AObj))}{k3:Nat × Option AObj→Nat × Option AObj→Option (AV × (Nat × Option AObj))}{ob:AObj}
theorem ex_pure:(Eff.pure v).exec H=some (v,H):=rfl
theorem ex_rd:(Eff.rd id k).exec H=rdX (k (H id)) H:=by
 simp only[Eff.exec,rdX];split<;>split<;>simp_all
theorem ex_md:(Eff.md id k2).exec H=mdX (k2 (H id)) id H:=by
 simp only[Eff.exec,mdX];split<;>split<;>simp_all
theorem ex_rm:(Eff.rm src id k3).exec H=mdX (k3 (H src) (H id)) id H:=by
 simp only[Eff.exec,mdX];split<;>split<;>simp_all
theorem ex_new:(XF id f cs).exec H=newX (H id) id f cs H:=by
 simp only[XF,Eff.exec,newX]
 split<;>rename_i h
 ·split at h
  ·rename_i ver e;simp only[Option.some.injEq,Prod.mk.injEq]at h;obtain⟨rfl,rfl⟩:=h;rw[e]
  ·cases h
 ·split at h
  ·cases h
  ·rename_i hne
   split
   ·rename_i ver e;exact absurd e (hne ver)
   ·rfl
theorem rdX_some:rdX (some v) H=some (v,H):=rfl
theorem mdX_some:mdX (some (v,y)) id H=some (v,upd H id y):=rfl
theorem newX_none:newX (ver,none) id f cs H=some (f (ver+1),upd H id (ver+1,some (.cells cs))):=rfl
theorem alive_some:VL ver (ver,some ob)=true:=by simp [VL]
theorem cellsOf_some:cellsOf ver (ver,some (.cells cs))=some cs:=by simp [cellsOf]
theorem rds_pure:(Eff.pure v).rds = []:=rfl
theorem rds_rd:(Eff.rd id k).rds = [id]:=rfl
theorem rds_md:(Eff.md id k2).rds = [id]:=rfl
theorem rds_rm:(Eff.rm src id k3).rds = [src,id]:=rfl
theorem rds_new:(XF id f cs).rds = [id]:=rfl
theorem wrs_pure:(Eff.pure v).wrs = []:=rfl
theorem wrs_rd:(Eff.rd id k).wrs = []:=rfl
theorem wrs_md:(Eff.md id k2).wrs = [id]:=rfl
theorem wrs_rm:(Eff.rm src id k3).wrs = [id]:=rfl
theorem wrs_new:(XF id f cs).wrs = [id]:=rfl
theorem noConf_nil {od rd wr:List Nat} : VQ [] od rd wr=true:=rfl
theorem noConf_cons {fp:Fp}{acc:List Fp}{od rd wr:List Nat} : VQ (fp::acc) od rd wr=((od.contains fp.i||fp.ok rd wr)&&VQ acc od rd wr):=rfl
theorem fpOk {i:Nat}{rd wr rd' wr':List Nat} : Fp.ok ⟨i,rd,wr⟩ rd' wr'=(disj wr (rd'++wr')&&disj wr' rd):=rfl
theorem disj_nil {b:List Nat} : disj [] b=true:=rfl
theorem disj_cons {x:Nat}{a b:List Nat} : disj (x::a) b=(!b.contains x&&disj a b):=rfl
theorem addFp_nil {n:Nat}{acc:List Fp} : XQ n [] [] acc=acc:=rfl
theorem addFp_cons {n x:Nat}{r wr:List Nat}{acc:List Fp} : XQ n (x::r) wr acc=⟨n,x::r,wr⟩::acc:=rfl
end

section
variable {ρ : Operand→AV}{t:Nat}
def effNil:AV→Eff
 | .f (.fp cs)=> .pure (.f (.fp cs))
 | .f (.fn f)=> .pure (.f (.fn f))
 | .clo f cs=> .pure (.clo f cs)
 | .f (.fc f cs)=> .pure (.f (.fc f cs))
 | .ptr id ver off=> .rd id fun o=>if VL ver o then some (.ptr id ver off)else none
 | _=> .no
def effPick (c a b:AV):Eff:=match c with
 | .f (.bool x)=> .pure (QAp x a b)
 | _=> .no
def effBox (t:Nat):AV→Eff
 | .agg cs=>XF t (fun v=> .ptr t v 0) cs
 | a=>if a.isOne then XF t (fun v=> .ptr t v 0) [a]else .no
def effBuild (x:Option (List AV)):Eff:=match x with
 | some cs=> .pure (.agg cs)
 | none=> .no
def effBuildS (t sz len:Nat) (x:Option (List AV)):Eff:=match x with
 | some cs=>XF t (fun v=> .sl t v sz 0 len) cs
 | none=> .no
def effLoad (n:Option Nat):AV→Eff
 | .f (.fp cs)=>match n with
  | none=>match cs[0]? with
   | some c=> .pure (.f c)
   | none=> .no
  | some n=>if n≤cs.length then .pure (.agg ((cs.take n).map .f))else .no
 | .ptr id ver off=> .rd id fun o=>match cellsOf ver o with
  | some cs=>match n with
   | none=>cs[off]?
   | some n=>if off+n≤cs.length then some (.agg ((cs.drop off).take n))else none
  | none=>none
 | _=> .no
def effStore (n:Nat) (a:AV) (v:Option (List AV)):Eff:=match a,v with
 | .ptr id ver off,some xs=> .md id fun o=>match cellsOf ver o with
  | some cs=>if off+n≤cs.length then some (.any,(ver,some (.cells (splice cs off xs))))else none
  | none=>none
 | _,_=> .no
def fvX (x:Option FV):Eff:=match x with
 | some c=> .pure (.f c)
 | none=> .no
def effBin (op:BinOp) (tb:Bool) (a b:AV):Eff:=match a,b with
 | .f a,.f b=>fvX (binF op tb a b)
 | _,_=> .no
def effUn (op:UnOp) (a:AV):Eff:=match a with
 | .f a=>fvX (unF op a)
 | _=> .no
def effConvInt (k:IntKind) (a:AV):Eff:=match a with
 | .f (.int _ n)=> .pure (.f (.int k (k.wrap n)))
 | _=> .no
def effConvStr (a:AV):Eff:=match a with
 | .f (.str s)=> .pure (.f (.str s))
 | _=> .no
theorem ef_move {x:Operand} : eff (.move x) ρ t=.pure (ρ x):=rfl
theorem ef_nil {x:Operand} : eff (.nilChk x) ρ t=effNil (ρ x):=rfl
theorem ef_pick {c a b:Operand} : eff (.pick c a b) ρ t=effPick (ρ c) (ρ a) (ρ b):=rfl
theorem zeros_0 {z:List FV} : Qd 0 z = []:=rfl
theorem zeros_1 {z:List FV} : Qd 1 z=z.map .f:=by simp [Qd]
theorem zeros_2 {z:List FV} : Qd 2 z=z.map .f++Qd 1 z:=by simp [Qd,List.replicate_succ]
theorem zeros_3 {z:List FV} : Qd 3 z=z.map .f++Qd 2 z:=by simp [Qd,List.replicate_succ]
theorem zeros_4 {z:List FV} : Qd 4 z=z.map .f++Qd 3 z:=by simp [Qd,List.replicate_succ]
theorem zeros_5 {z:List FV} : Qd 5 z=z.map .f++Qd 4 z:=by simp [Qd,List.replicate_succ]
theorem zeros_6 {z:List FV} : Qd 6 z=z.map .f++Qd 5 z:=by simp [Qd,List.replicate_succ]
theorem zeros_7 {z:List FV} : Qd 7 z=z.map .f++Qd 6 z:=by simp [Qd,List.replicate_succ]
theorem zeros_8 {z:List FV} : Qd 8 z=z.map .f++Qd 7 z:=by simp [Qd,List.replicate_succ]
theorem zeros_9 {z:List FV} : Qd 9 z=z.map .f++Qd 8 z:=by simp [Qd,List.replicate_succ]
theorem zeros_10 {z:List FV} : Qd 10 z=z.map .f++Qd 9 z:=by simp [Qd,List.replicate_succ]
theorem zeros_11 {z:List FV} : Qd 11 z=z.map .f++Qd 10 z:=by simp [Qd,List.replicate_succ]
theorem zeros_12 {z:List FV} : Qd 12 z=z.map .f++Qd 11 z:=by simp [Qd,List.replicate_succ]
theorem zeros_13 {z:List FV} : Qd 13 z=z.map .f++Qd 12 z:=by simp [Qd,List.replicate_succ]
theorem zeros_14 {z:List FV} : Qd 14 z=z.map .f++Qd 13 z:=by simp [Qd,List.replicate_succ]
theorem zeros_15 {z:List FV} : Qd 15 z=z.map .f++Qd 14 z:=by simp [Qd,List.replicate_succ]
theorem zeros_16 {z:List FV} : Qd 16 z=z.map .f++Qd 15 z:=by simp [Qd,List.replicate_succ]
theorem ef_alloc {e:TypeId}{z:List FV} : eff (.alloc e z) ρ t=XF t (fun v=> .ptr t v 0) (z.map .f):=rfl
theorem ef_box {e:TypeId}{x:Operand} : eff (.box e x) ρ t=effBox t (ρ x):=rfl
theorem ef_build {z:List FV}{ps:List (Nat × Nat × Operand)} : eff (.build z ps) ρ t=effBuild (fillA (z.map .f) (ps.map fun (o,s,x)=>(o,s,ρ x))):=rfl
theorem ef_buildS {e:TypeId}{sz len:Nat}{z:List FV}{ps:List (Nat × Operand)} : eff (.buildSlice e sz len z ps) ρ t=effBuildS t sz len (fillA (Qd len z) (ps.map fun (i,x)=>(i*sz,sz,ρ x))):=rfl
theorem ef_load {n:Option Nat}{x:Operand} : eff (.load n x) ρ t=effLoad n (ρ x):=rfl
theorem ef_store {n:Nat}{a v:Operand} : eff (.store n a v) ρ t=effStore n (ρ a) ((ρ v).cellsN n):=rfl
theorem ef_bin {op:BinOp}{tb:Bool}{x y:Operand} : eff (.bin op tb x y) ρ t=effBin op tb (ρ x) (ρ y):=rfl
theorem ef_un {op:UnOp}{x:Operand} : eff (.un op x) ρ t=effUn op (ρ x):=rfl
theorem ef_convInt {k:IntKind}{x:Operand} : eff (.convInt k x) ρ t=effConvInt k (ρ x):=rfl
def effBytesStr (x:AV):Eff:=match x with
 | .f .nil=> .pure (.f (.str ⟨#[]⟩))
 | .f (.fr sz l)=>if sz=1 then match QCE l with
  | some s=> .pure (.f (.str ⟨s.toArray⟩))
  | none=> .no else .no
 | .sl id ver sz off n=>if sz=1 then .rd id fun o=>match cellsOf ver o with
  | some cs=>if off+n≤cs.length then match Jc ((cs.drop off).take n)with
   | some s=>some (.f (.str ⟨s.toArray⟩))
   | none=>none else none
  | none=>none else .no
 | _=> .no
theorem ef_bytesStr {x:Operand} : eff (.bytesStr x) ρ t=effBytesStr (ρ x):=rfl
def effStrBytes (x:AV):Eff:=match x with
 | .f (.str s)=>if s.size≤140737488355328 then .pure (.f (.fr 1 (s.data.toList.map encU)))else .no
 | _=> .no
theorem ef_strBytes {x:Operand} : eff (.strBytes x) ρ t=effStrBytes (ρ x):=rfl
def effMark (x:AV):Eff:=match x with
 | .sl id ver sz off n=>if sz=1∧n≠0 then .md id fun o=>match cellsOf ver o with
  | some cs=>if off+n≤cs.length then match onesA ((cs.drop off).take n)with
   | some l=>some (.f (.fr 1 l),(ver,none))
   | none=>none else none
  | none=>none else .no
 | _=> .no
theorem ef_mark {x:Operand} : eff (.mark x) ρ t=effMark (ρ x):=rfl
theorem ef_convStr {x:Operand} : eff (.convStr x) ρ t=effConvStr (ρ x):=rfl
def effClo (f:Fn) (caps:List AV):Eff:=match caps with
 | []=> .pure (.f (.fn f))
 | _=> .pure (.clo f caps)
def effMake (t sz bytes:Nat) (z:List FV) (l c:Option Int):Eff:=match l,c with
 | some n,some m=>if 0≤n∧n≤m∧m*bytes≤140737488355328∧m≤9223372036854775807 then XF t (fun v=> .sl t v sz 0 n.toNat) (Qd n.toNat z)else .no
 | _,_=> .no
def boundsV (n:Nat) (lo hi:Option Int):Option (Nat × Nat):=match hi,lo with
 | some h,some l=>if 0≤l∧l≤h∧h≤n then some (l.toNat,h.toNat)else none
 | _,_=>none
def effSlice (sz:Nat) (x:AV) (bd:Nat→Option (Nat × Nat)):Eff:=match x with
 | .f .nil=>match bd 0 with
  | some _=> .pure (.f .nil)
  | none=> .no
 | .f (.fr sz' l)=>if sz'=sz then match bd l.length with
  | some (a,b)=> .pure (.f (.fr sz ((l.take b).drop a)))
  | none=> .no else .no
 | .sl id ver sz' off n=>if sz'=sz then match bd n with
  | some (a,b)=> .rd id fun o=>if VL ver o then some (.sl id ver sz (off+a) (b - a))else none
  | none=> .no else .no
 | _=> .no
def effSlice0 (x:AV) (lo hi mx:Option Int):Eff:=match lo,hi,mx with
 | some 0,some 0,some 0=>match x with
  | .f .nil=> .pure (.f .nil)
  | .f (.fr _ _)=> .pure (.f .nil)
  | .sl id ver _ _ _=> .rd id fun o=>if VL ver o then some (.f .nil)else none
  | _=> .no
 | _,_,_=> .no
def effSliceS (x:AV) (bd:Nat→Option (Nat × Nat)):Eff:=match x with
 | .f (.str s)=>match bd s.size with
  | some (a,b)=> .pure (.f (.str (s.extract a b)))
  | none=> .no
 | _=> .no
def effFieldAddr (off:Nat):AV→Eff
 | .f (.fp cs)=>if off≤cs.length then .pure (.f (.fp (cs.drop off)))else .no
 | .ptr id ver o=> .rd id fun ob=>if VL ver ob then some (.ptr id ver (o+off))else none
 | _=> .no
def effField (off:Nat) (n:Option Nat):AV→Eff
 | .agg cs=>match n with
  | none=>match cs[off]? with
   | some a=> .pure a
   | none=> .no
  | some n=>if off+n≤cs.length then .pure (.agg ((cs.drop off).take n))else .no
 | _=> .no
def effIndex (sz:Nat) (x:AV) (ix:Option Int):Eff:=match x,ix with
 | .f (.fr sz' l),some i=>if sz'=sz∧0≤i then match l[i.toNat]? with
  | some cs=> .pure (.f (.fp cs))
  | none=> .no else .no
 | .sl id ver sz' off n,some i=>if sz'=sz∧0≤i∧i<n then .rd id fun ob=>if VL ver ob then some (.ptr id ver ((off+i.toNat)*sz))else none else .no
 | _,_=> .no
def effIndexS (x:AV) (ix:Option Int):Eff:=match x,ix with
 | .f (.str s),some i=>if 0≤i then match s.data.toList[i.toNat]? with
  | some b=> .pure (.f (.int .u8 b.toNat))
  | none=> .no else .no
 | _,_=> .no
def effExtract (x:AV) (i:Nat):Eff:=match x with
 | .tup vs=>match vs[i]? with
  | some a=> .pure a
  | none=> .no
 | _=> .no
def effLen (str:Bool):AV→Eff
 | .f (.str s)=>if str=true then .pure (.f (.int .i64 s.size))else .no
 | .f .nil=>if str=false then .pure (.f (.int .i64 0))else .no
 | .f (.fr _ l)=>if str=false then .pure (.f (.int .i64 l.length))else .no
 | .sl id ver _ _ n=>if str=false then .rd id fun o=>if VL ver o then some (.f (.int .i64 n))else none else .no
 | _=> .no
def effMax (x y:AV):Eff:=match x,y with
 | .f (.int k a),.f (.int k' b)=>if k=k' then .pure (.f (.int k (max a b)))else .no
 | _,_=> .no
def effMin (x y:AV):Eff:=match x,y with
 | .f (.int k a),.f (.int k' b)=>if k=k' then .pure (.f (.int k (min a b)))else .no
 | _,_=> .no
def effAppend (t:Nat) (str:Bool) (sz bytes:Nat) (s x:AV):Eff:=match s,x with
 | .f .nil,.sl id ver sz' off n=>if str=false∧sz'=sz∧id≠t then .rm id t fun o o2=>match cellsOf ver o with
  | some cs=>if (off+n)*sz≤cs.length then bornA sz bytes n ((cs.drop (off*sz)).take (n*sz)) t o2 else none
  | none=>none else .no
 | .sl id ver sz1 off n,.sl id2 ver2 sz2 off2 n2=>if str=false∧sz1=sz∧sz2=sz∧id2≠id then .rm id2 id fun o2 o=>match cellsOf ver2 o2 with
  | some cs=>if (off2+n2)*sz≤cs.length then growA sz bytes ver off n n2 ((cs.drop (off2*sz)).take (n2*sz)) id o else none
  | none=>none else .no
 | .f .nil,b=>match srcF str sz b with
  | some (m,news)=> .md t (bornA sz bytes m news t)
  | none=> .no
 | .sl id ver sz' off n,b=>if sz'=sz then match srcF str sz b with
  | some (m,news)=> .md id (growA sz bytes ver off n m news id)
  | none=> .no else .no
 | _,_=> .no
def effEqS (ks:List Nat) (neg:Bool) (a b:AV):Eff:=match a,b with
 | .agg xs,.agg ys=>match eqL ks xs ys with
  | some b=> .pure (.f (.bool (b != neg)))
  | none=> .no
 | _,_=> .no
theorem ef_eqS {ks:List Nat}{neg:Bool}{x y:Operand} : eff (.eqS ks neg x y) ρ t=effEqS ks neg (ρ x) (ρ y):=rfl
def effIsNil (p neg:Bool) (a:AV):Eff:=match p,a with
 | false,.f .nil=> .pure (.f .bit)
 | false,.f (.fr _ l)=> .pure (.f (if l.length=0 then .bit else .bool neg))
 | false,.sl id ver _ _ n=> .rd id fun o=>if VL ver o then some (.f (if n=0 then .bit else .bool neg))else none
 | true,.f (.fp _)=> .pure (.f (.bool neg))
 | true,.ptr id ver _=> .rd id fun o=>if VL ver o then some (.f (.bool neg))else none
 | true,.f (.lit (.pointer none))=> .pure (.f (.bool (!neg)))
 | _,_=> .no
theorem ef_isNil {p neg:Bool}{x:Operand} : eff (.isNil p neg x) ρ t=effIsNil p neg (ρ x):=by
 cases p<;>simp only[eff]<;>cases ρ x<;>try rfl
 all_goals (rename_i x;cases x<;>try rfl)
 all_goals (rename_i v;cases v<;>try rfl)
 all_goals (rename_i a;cases a<;>rfl)
theorem ef_clo {f:Fn}{caps:List Operand} : eff (.clo f caps) ρ t=effClo f (caps.map ρ):=by
 cases caps<;>rfl
theorem ef_make {e sz bytes:Nat}{z:List FV}{l c:Operand} : eff (.makeSlice e sz bytes z l c) ρ t=effMake t sz bytes z (ρ l).toI (ρ c).toI:=rfl
theorem bounds_v (n:Nat) (lo hi:Option Operand):YK n ρ lo hi=boundsV n (match lo with|some l=>(ρ l).toI|none=>some 0) (match hi with|some h=>(ρ h).toI|none=>some (n:Int)):=rfl
theorem ef_slice {sz:Nat}{x:Operand}{lo hi:Option Operand} : eff (.slice sz x lo hi) ρ t=effSlice sz (ρ x) (fun n=>YK n ρ lo hi):=rfl
theorem ef_slice0 {x lo hi mx:Operand} : eff (.slice0 x lo hi mx) ρ t=effSlice0 (ρ x) (ρ lo).toI (ρ hi).toI (ρ mx).toI:=rfl
theorem ef_sliceS {x:Operand}{lo hi:Option Operand} : eff (.sliceS x lo hi) ρ t=effSliceS (ρ x) (fun n=>YK n ρ lo hi):=rfl
theorem ef_fieldAddr {off:Nat}{x:Operand} : eff (.fieldAddr off x) ρ t=effFieldAddr off (ρ x):=rfl
theorem ef_field {off:Nat}{n:Option Nat}{x:Operand} : eff (.field off n x) ρ t=effField off n (ρ x):=rfl
theorem ef_index {sz:Nat}{x ix:Operand} : eff (.indexAddr sz x ix) ρ t=effIndex sz (ρ x) (ρ ix).toI:=rfl
theorem ef_indexS {x ix:Operand} : eff (.indexS x ix) ρ t=effIndexS (ρ x) (ρ ix).toI:=rfl
theorem ef_extract {x:Operand}{i:Nat} : eff (.extract x i) ρ t=effExtract (ρ x) i:=rfl
theorem ef_len {str:Bool}{x:Operand} : eff (.len str x) ρ t=effLen str (ρ x):=rfl
theorem ef_max {x y:Operand} : eff (.maxI x y) ρ t=effMax (ρ x) (ρ y):=rfl
theorem ef_min {x y:Operand} : eff (.minI x y) ρ t=effMin (ρ x) (ρ y):=rfl
theorem ef_append {str:Bool}{e sz bytes:Nat}{s x:Operand} : eff (.append str e sz bytes s x) ρ t=effAppend t str sz bytes (ρ s) (ρ x):=rfl
def effCopy (sz:Nat) (d s:AV):Eff:=match d,s with
 | .sl id ver sz1 off n,.sl id2 ver2 sz2 off2 n2=>if sz1=sz∧sz2=sz then(if id2=id then .md id (copyS sz ver off n ver2 off2 n2)else .rm id2 id (copyR sz ver off n ver2 off2 n2))else .no
 | .sl id ver sz1 off n,.f (.fr sz2 l)=>if sz1=sz∧sz2=sz then .md id (copyN sz ver off n l.length (l.flatten.map .f))else .no
 | .sl id ver sz1 off n,.f .nil=>if sz1=sz then .md id (copyN sz ver off n 0 [])else .no
 | _,_=> .no
theorem ef_copy {sz:Nat}{d s:Operand} : eff (.copy sz d s) ρ t=effCopy sz (ρ d) (ρ s):=rfl
def effClear (sz:Nat) (z:List FV):AV→Eff
 | .sl id ver sz1 off n=>if sz1=sz then .md id fun o=>match cellsOf ver o with
  | some cs=>if (off+n)*sz≤cs.length then some (.tup [],(ver,some (.cells (splice cs (off*sz) (Qd n z)))))else none
  | none=>none else .no
 | _=> .no
theorem ef_clear {sz:Nat}{z:List FV}{x:Operand} : eff (.clear sz z x) ρ t=effClear sz z (ρ x):=rfl
theorem ef_mkMap:eff .mkMap ρ t=.md t fun o=>match o with
  | (ver,none)=>some (.map t (ver+1),(ver+1,some (.map [])))
  | _=>none:=rfl
def effMapUpd (m k:AV) (x:Option Value) (y:AV):Eff:=match m,k,x with
 | .map id ver,.f (.str s),some x=> .md id fun o=>match JE ver o with
  | some es=>some (.any,(ver,some (.map (mSet s x es))))
  | none=>none
 | .map id ver,.f (.str s),none=>Js id ver s y
 | _,_,_=> .no
theorem ef_mapUpd {m k x:Operand} : eff (.mapUpd m k x) ρ t=effMapUpd (ρ m) (ρ k) (ρ x).plainVal (ρ x):=rfl
def effLookup (z:Value) (ok:Bool) (m k:AV):Eff:=match m,k with
 | .map id ver,.f (.str s)=> .rd id fun o=>match JE ver o with
  | some es=>some (lookV z ok (mGet s es))
  | none=>lookT ver s ok o
 | .f (.fm es),.f (.str s)=> .pure (lookV z ok (mGet s es))
 | _,_=> .no
theorem ef_lookup {z:Value}{ok:Bool}{m k:Operand} : eff (.lookup z ok m k) ρ t=effLookup z ok (ρ m) (ρ k):=rfl
theorem QA1 {ver v:Nat}{cs:List AV}{t:TypeId} : JE ver (v,some (.ty cs t))=none:=rfl
theorem NC {ver:Nat}{cs:List AV} : Uh ver (ver,some (.ty cs ZD))=some cs:=by simp [Uh]
theorem mapOfH_some {ver:Nat}{m:List (ByteArray × Value)} : JE ver (ver,some (.map m))=some m:=by simp [JE]
theorem toI_int {k:IntKind}{n:Int} : (AV.f (.int k n)).toI=some n:=rfl
end
theorem ic_move:∀ x,LOp.isCall (.move x)=false:=fun _=>rfl
theorem ic_nilChk:∀ x,LOp.isCall (.nilChk x)=false:=fun _=>rfl
theorem ic_pick:∀ a b c,LOp.isCall (.pick a b c)=false:=fun _ _ _=>rfl
theorem ic_alloc:∀ e z,LOp.isCall (.alloc e z)=false:=fun _ _=>rfl
theorem ic_box:∀ e x,LOp.isCall (.box e x)=false:=fun _ _=>rfl
theorem ic_build:∀ z l,LOp.isCall (.build z l)=false:=fun _ _=>rfl
theorem ic_buildSlice:∀ e s n z l,LOp.isCall (.buildSlice e s n z l)=false:=fun _ _ _ _ _=>rfl
theorem ic_load:∀ n x,LOp.isCall (.load n x)=false:=fun _ _=>rfl
theorem ic_store:∀ n a v,LOp.isCall (.store n a v)=false:=fun _ _ _=>rfl
theorem ic_bin:∀ o b x y,LOp.isCall (.bin o b x y)=false:=fun _ _ _ _=>rfl
theorem ic_isNil:∀ p o x,LOp.isCall (.isNil p o x)=false:=fun _ _ _=>rfl
theorem ic_eqS:∀ k o x y,LOp.isCall (.eqS k o x y)=false:=fun _ _ _ _=>rfl
theorem ic_un:∀ o x,LOp.isCall (.un o x)=false:=fun _ _=>rfl
theorem ic_convInt:∀ k x,LOp.isCall (.convInt k x)=false:=fun _ _=>rfl
theorem ic_convStr:∀ x,LOp.isCall (.convStr x)=false:=fun _=>rfl
theorem ic_bytesStr:∀ x,LOp.isCall (.bytesStr x)=false:=fun _=>rfl
theorem ic_strBytes:∀ x,LOp.isCall (.strBytes x)=false:=fun _=>rfl
theorem ic_mark:∀ x,LOp.isCall (.mark x)=false:=fun _=>rfl
theorem ic_clo:∀ f l,LOp.isCall (.clo f l)=false:=fun _ _=>rfl
theorem ic_makeSlice:∀ e s b z l c,LOp.isCall (.makeSlice e s b z l c)=false:=fun _ _ _ _ _ _=>rfl
theorem ic_slice:∀ s x l h,LOp.isCall (.slice s x l h)=false:=fun _ _ _ _=>rfl
theorem ic_slice0:∀ x l h m,LOp.isCall (.slice0 x l h m)=false:=fun _ _ _ _=>rfl
theorem ic_sliceS:∀ x l h,LOp.isCall (.sliceS x l h)=false:=fun _ _ _=>rfl
theorem ic_fieldAddr:∀ o x,LOp.isCall (.fieldAddr o x)=false:=fun _ _=>rfl
theorem ic_field:∀ o n x,LOp.isCall (.field o n x)=false:=fun _ _ _=>rfl
theorem ic_indexAddr:∀ s x i,LOp.isCall (.indexAddr s x i)=false:=fun _ _ _=>rfl
theorem ic_indexS:∀ x i,LOp.isCall (.indexS x i)=false:=fun _ _=>rfl
theorem ic_extract:∀ x i,LOp.isCall (.extract x i)=false:=fun _ _=>rfl
theorem ic_len:∀ s x,LOp.isCall (.len s x)=false:=fun _ _=>rfl
theorem ic_maxI:∀ x y,LOp.isCall (.maxI x y)=false:=fun _ _=>rfl
theorem ic_minI:∀ x y,LOp.isCall (.minI x y)=false:=fun _ _=>rfl
theorem ic_copy:∀ s x y,LOp.isCall (.copy s x y)=false:=fun _ _ _=>rfl
theorem ic_clear:∀ s z x,LOp.isCall (.clear s z x)=false:=fun _ _ _=>rfl
theorem ic_mkMap:LOp.isCall .mkMap=false:=rfl
theorem ic_mapUpd:∀ x y z,LOp.isCall (.mapUpd x y z)=false:=fun _ _ _=>rfl
theorem ic_lookup:∀ z o x y,LOp.isCall (.lookup z o x y)=false:=fun _ _ _ _=>rfl
theorem ic_append:∀ a e s b x y,LOp.isCall (.append a e s b x y)=false:=fun _ _ _ _ _ _=>rfl
theorem QR {n:Int}(h1 : -9223372036854775808≤n) (h2:n≤9223372036854775807):IntKind.i64.wrap n=n:=by
 rw[IntKind.wrap_i64];omega
mutual
def SlotOk (H H':Heap) (nw:List Nat):AV→AV→Prop
 | a,.any=>True
 | .f x,b=>(match b with
  | .f y=>x=y∨(x=.nil∧∃ sz,y=.fr sz [])
  | .sl id ver sz off n=>x=.nil∧off=0∧n=0∧id∈nw∧ver=(H' id).1
  | _=>False)
 | .sl id ver sz off n,b=>(match b with
  | .sl id' ver' sz' off' n'=>id'=id∧sz'=sz∧off'=off∧n'=n∧ver=(H id).1∧ver'=(H' id).1∧id∉nw∧(H id).2.isSome=true∧(H' id).2.isSome=true
  | .f (.fr sz' l)=>sz'=sz∧l.length=n∧(∀ x∈l,x.length=sz)∧(H' id).2=none∧∃ cs,cellsOf ver (H id)=some cs∧(off+n)*sz≤cs.length∧(cs.drop (off*sz)).take (n*sz)=l.flatten.map .f
  | _=>False)
 | .ptr id ver off,b=>(match b with
  | .ptr id' ver' off'=>id'=id∧off'=off∧ver=(H id).1∧ver'=(H' id).1∧id∉nw∧(H id).2.isSome=true∧(H' id).2.isSome=true
  | .f (.fp l)=>(H' id).2=none∧∃ cs,cellsOf ver (H id)=some cs∧off+l.length≤cs.length∧(cs.drop off).take l.length=l.map .f
  | _=>False)
 | .map id ver,b=>(match b with
  | .map id' ver'=>id'=id∧ver=(H id).1∧ver'=(H' id).1∧id∉nw∧(H id).2.isSome=true∧(H' id).2.isSome=true
  | .f (.fm m)=>(H' id).2=none∧JE ver (H id)=some m
  | _=>False)
 | .agg l,b=>(match b with
  | .agg l'=>SlotsOk H H' nw l l'
  | _=>False)
 | .tup l,b=>(match b with
  | .tup l'=>SlotsOk H H' nw l l'
  | _=>False)
 | .clo g l,b=>(match b with
  | .clo g' l'=>g'=g∧SlotsOk H H' nw l l'
  | .f (.fc g' l')=>g'=g∧SlotsOk H H' nw l (l'.map .f)
  | _=>False)
 | .slc id ver sz off n c,b=>False
 | .any,_=>False
def SlotsOk (H H':Heap) (nw:List Nat):List AV→List AV→Prop
 | [],l'=>l' = []
 | a::l,l'=>(match l' with
  | b::l'=>SlotOk H H' nw a b∧SlotsOk H H' nw l l'
  | []=>False)
end

def wkG (G:QM) (H':Heap) (nw:List Nat):QM:=fun id=>((H' id).1,if (H' id).2.isSome=true then(if id∈nw then some none else(G id).2)else none)
def wkZ (G:QM) (H':Heap) (nw:List Nat) (Z:Nat→Prop):Nat→Prop:=fun b=>Z b∨∃ id o,(G id).2=some (some (b,o))∧((H' id).2=none∨id∈nw)
section
variable {P:Program}{G:QM}{H H':Heap}{nw:List Nat}{Z:Nat→Prop}{w:World}
theorem QAR (st:St P G H Z w){id ver:Nat}{cs:List AV}(hc:cellsOf ver (H id)=some cs) (hd:(H' id).2=none){g o:Nat}(hG:(G id).2=some (some (g,o))){k:Nat}{l:List FV}(hl:(cs.drop k).take l.length=l.map .f) (hin:k+l.length≤cs.length) :
  wkZ G H' nw Z g∧∀ j x,l[j]? = some x→∃ u,w.cell? ⟨g,o+k+j,none⟩=some u∧u.oneCell'=true∧RepF Z w x u:=by
 obtain⟨loc,hG2,hob,hH⟩:=st.cells hc
 rw[hG2]at hG
 simp only[Option.some.injEq]at hG
 subst hG
 obtain⟨arr,e,hh,hcc⟩:=hob
 refine⟨.inr ⟨id,o,by rw[hG2],.inl hd⟩,fun j x hx=> ?_⟩
 have hj:=(List.getElem?_eq_some_iff.1 hx).1
 have h1:((cs.drop k).take l.length)[j]? = some (.f x):=by rw[hl,List.getElem?_map,hx];rfl
 rw[List.getElem?_take_of_lt hj,List.getElem?_drop]at h1
 obtain⟨u,h2,h3,h4⟩:=hcc _ _ h1
 exact⟨u,by rw[Nat.add_assoc,cell_of_row w g _ arr e (0,0) hh];exact h2,h3,h4.f_⟩
theorem RepF.wk {x:FV}{v:Value}(h:RepF Z w x v):RepF (wkZ G H' nw Z) w x v:=h.keep fun b hb=>⟨.inl hb,rfl⟩
theorem JV (st:St P G H Z w){id:Nat}(h:(H id).2.isSome=true):∃ loc,(G id).2=some loc:=by
 obtain⟨o,ho⟩:=Option.isSome_iff_exists.1 h
 obtain⟨loc,hl,_⟩:=st.obj id o ho
 exact⟨loc,hl⟩
theorem Kz {id ver:Nat}{loc:Option (Nat × Nat)}(hn:id∉nw) (h1:(H' id).2.isSome=true) (hv:ver=(H' id).1) (hl:(G id).2=some loc):wkG G H' nw id=(ver,some loc):=by
 simp [wkG,h1,hn,hl,hv]
mutual
theorem SlotOk.rep (st:St P G H Z w):∀ (a b:AV) (v:Value),SlotOk H H' nw a b→RepA G Z w a v→RepA (wkG G H' nw) (wkZ G H' nw Z) w b v
 | .any,b,v,h,hr=>by
  cases b<;>simp only[SlotOk]at h
  exact .any v
 | .f x,b,v,h,hr=>by
  cases b with
  | any=>exact .any v
  | f y=>
   simp only[SlotOk]at h
   rcases h with rfl|⟨rfl,sz,rfl⟩
   ·exact .f hr.f_.wk
   ·obtain⟨A,rfl⟩:=hr.nil_
    exact .f (.frNil _ _ _ (by unfold maxLen;omega))
  | sl id ver sz off n=>
   simp only[SlotOk]at h
   obtain⟨rfl,rfl,rfl,hn,rfl⟩:=h
   obtain⟨A,rfl⟩:=hr.nil_
   by_cases hs:(H' id).2.isSome=true
   ·exact .slCap _ _ _ _ _ none (by simp [wkG,hs,hn])
   ·exact .slOld _ _ _ _ _ _ (Nat.le_refl _) (fun _=>by simp [wkG,hs]) rfl
  | _=>simp only[SlotOk]at h
 | .sl id ver sz off n,b,v,h,hr=>by
  cases b with
  | any=>exact .any v
  | sl id' ver' sz' off' n'=>
   simp only[SlotOk]at h
   obtain⟨rfl,rfl,rfl,rfl,rfl,rfl,hn,h1,h2⟩:=h
   obtain⟨loc,hl⟩:=JV st h1
   have hG:G id'=((H id').1,some loc):=Prod.ext (st.ver id') hl
   have hG':=Kz (G:=G) (nw:=nw) hn h2 rfl hl
   rcases hr.sl_ hG with⟨rfl,A,rfl⟩|⟨g,o,c,rfl,rfl,h3,h4,h5⟩
   ·exact .slCap _ _ _ _ _ loc hG'
   ·exact .slLive _ _ _ _ _ g o c hG' h3 h4 h5
  | f y=>
   cases y<;>simp only[SlotOk]at h
   rename_i sz' l
   obtain⟨rfl,rfl,hlen,hd,cs,hc,hin,hcs⟩:=h
   obtain⟨loc,hG,hob,hH⟩:=st.cells hc
   have hfl:=Qn l hlen
   rcases hr.sl_ hG with⟨h0,A,rfl⟩|⟨g,o,c,rfl,rfl,h3,h4,h5⟩
   ·have:l = []:=List.eq_nil_of_length_eq_zero h0
    subst this
    exact .f (.frNil _ _ _ (by unfold maxLen;omega))
   ·rcases Nat.eq_zero_or_pos l.length with h0|h0
    ·have:l = []:=List.eq_nil_of_length_eq_zero h0
     subst this
     exact .f (.frNil _ _ _ h4)
    ·obtain⟨hz,hx⟩:=QAR (nw:=nw) st hc hd (g:=g) (o:=o) (by rw[hG]) (k:=off*sz') (l:=l.flatten) (by rw[hfl];exact hcs) (by rw[hfl];rw[Nat.add_mul]at hin;exact hin)
     obtain⟨us,hus⟩:∃ us:Nat→Value,∀ j x,l.flatten[j]? = some x→w.cell? ⟨g,o+off*sz'+j,none⟩=some (us j)∧(us j).oneCell'=true∧RepF Z w x (us j):=by
      refine⟨fun j=>(w.cell? ⟨g,o+off*sz'+j,none⟩).getD undef,fun j x hj=> ?_⟩
      obtain⟨u,h6,h7,h8⟩:=hx j x hj
      simp only[h6,Option.getD_some]
      exact⟨trivial,h7,h8⟩
     have hget:∀ k j,k<l.length→j<sz'→∃ x,l.flatten[k*sz'+j]? = some x:=fun k j hk hj=>by
      refine⟨_,List.getElem?_eq_getElem ?_⟩
      rw[hfl]
      have:(k+1)*sz'≤l.length*sz':=Nat.mul_le_mul_right _ hk
      rw[Nat.add_mul]at this;omega
     refine .f (.fr sz' l g (o+off*sz') c (fun k j=>us (k*sz'+j)) h0 h3 h4 hz hlen (fun k j hk hj=> ?_) fun k j x a hk hj=> ?_)
     ·obtain⟨x,hx'⟩:=hget k j hk hj
      obtain⟨h6,h7,_⟩:=hus _ x hx'
      exact⟨by rw[Nat.add_assoc];exact h6,h7⟩
     ·have hjl:j<sz':=by
       rw[← hlen x (List.mem_of_getElem? hk)];exact(List.getElem?_eq_some_iff.1 hj).1
      have hkl:=(List.getElem?_eq_some_iff.1 hk).1
      have:l.flatten[k*sz'+j]? = some a:=by
       obtain⟨y,hy⟩:=hget k j hkl hjl
       obtain⟨k',j',x',g1,g2,g3,g4⟩:=YB l hlen _ y hy
       have hk':k'=k:=by
        have h1:(k*sz'+j) / sz'=k:=by rw[Nat.mul_comm,Nat.mul_add_div (by omega),Nat.div_eq_of_lt hjl,Nat.add_zero]
        have h2:(k'*sz'+j') / sz'=k':=by rw[Nat.mul_comm,Nat.mul_add_div (by omega),Nat.div_eq_of_lt g4,Nat.add_zero]
        rw[← h1,← h2,g3]
       subst hk'
       have hj':j'=j:=by omega
       subst hj'
       rw[hk]at g1;obtain rfl:=Option.some.inj g1
       rw[hj]at g2;obtain rfl:=Option.some.inj g2
       exact hy
      exact(hus _ a this).2.2.wk
  | _=>simp only[SlotOk]at h
 | .ptr id ver off,b,v,h,hr=>by
  cases b with
  | any=>exact .any v
  | ptr id' ver' off'=>
   simp only[SlotOk]at h
   obtain⟨rfl,rfl,rfl,rfl,hn,h1,h2⟩:=h
   obtain⟨loc,hl⟩:=JV st h1
   have hG:G id'=((H id').1,some loc):=Prod.ext (st.ver id') hl
   have hG':=Kz (G:=G) (nw:=nw) hn h2 rfl hl
   obtain⟨g,o,rfl,rfl⟩:=hr.ptr_ hG
   exact .ptrLive _ _ _ g o hG'
  | f y=>
   cases y<;>simp only[SlotOk]at h
   rename_i l
   obtain⟨hd,cs,hc,hin,hcs⟩:=h
   obtain⟨loc,hG,hob,hH⟩:=st.cells hc
   obtain⟨g,o,rfl,rfl⟩:=hr.ptr_ hG
   obtain⟨hz,hx⟩:=QAR (nw:=nw) st hc hd (g:=g) (o:=o) (by rw[hG]) (k:=off) (l:=l) hcs hin
   refine .f (.fp l g (o+off) (fun j=>(w.cell? ⟨g,o+off+j,none⟩).getD undef) hz (fun j hj=> ?_) fun j a hj=> ?_)
   ·obtain⟨u,h6,h7,_⟩:=hx j _ (List.getElem?_eq_getElem hj)
    simp only[h6,Option.getD_some]
    exact⟨trivial,h7⟩
   ·obtain⟨u,h6,_,h7⟩:=hx j a hj
    simp only[h6,Option.getD_some]
    exact h7.wk
  | _=>simp only[SlotOk]at h
 | .map id ver,b,v,h,hr=>by
  cases b with
  | any=>exact .any v
  | map id' ver'=>
   simp only[SlotOk]at h
   obtain⟨rfl,rfl,rfl,hn,h1,h2⟩:=h
   obtain⟨loc,hl⟩:=JV st h1
   have hG:G id'=((H id').1,some loc):=Prod.ext (st.ver id') hl
   have hG':=Kz (G:=G) (nw:=nw) hn h2 rfl hl
   cases hr with
   | mapOld _ _ _ h3 h4 h5=>rw[hG]at h4;exact absurd (h4 rfl) (by simp)
   | mapLive _ _ g o h3=>
    rw[hG]at h3
    simp only[Prod.mk.injEq,Option.some.injEq,true_and]at h3
    subst h3
    exact .mapLive _ _ g o hG'
  | f y=>
   cases y<;>simp only[SlotOk]at h
   rename_i m
   obtain⟨hd,hm⟩:=h
   obtain⟨g,hG,hH,hb⟩:=st.maps hm
   obtain⟨g',o',hloc,rfl⟩:=hr.map_ hG
   simp only[Option.some.injEq,Prod.mk.injEq]at hloc
   obtain⟨rfl,rfl⟩:=hloc
   exact .f (.fm m g (.inr ⟨id,0,by rw[hG],.inl hd⟩) (let ⟨es,c,h1,h2⟩:=hb;⟨es,c,h1,h2.1⟩))
  | _=>simp only[SlotOk]at h
 | .agg l,b,v,h,hr=>by
  cases b with
  | any=>exact .any v
  | agg l'=>
   simp only[SlotOk]at h
   obtain⟨us,rfl,h1,h2,h3⟩:=hr.agg_
   obtain⟨g1,g2⟩:=SlotsOk.rep st l l' us.toList h (by rw[Array.length_toList];omega) (fun j x u hx hu=>h3 j x u hx (by simpa using hu))
   exact .agg _ us (by rw[g1];exact h1) h2 (fun j x u hx hu=>g2 j x u hx (by simpa using hu))
  | _=>simp only[SlotOk]at h
 | .tup l,b,v,h,hr=>by
  cases b with
  | any=>exact .any v
  | tup l'=>
   simp only[SlotOk]at h
   obtain⟨us,rfl,h1,h3⟩:=hr.tup_
   obtain⟨g1,g2⟩:=SlotsOk.rep st l l' us.toList h (by rw[Array.length_toList];omega) (fun j x u hx hu=>h3 j x u hx (by simpa using hu))
   exact .tup _ us (by rw[g1];exact h1) (fun j x u hx hu=>g2 j x u hx (by simpa using hu))
  | _=>simp only[SlotOk]at h
 | .slc id ver sz off n c,b,v,h,hr=>by
  cases b with
  | any=>exact .any v
  | _=>simp only[SlotOk]at h
 | .clo f l,b,v,h,hr=>by
  cases b with
  | any=>exact .any v
  | clo f' l'=>
   simp only[SlotOk]at h
   obtain⟨rfl,h⟩:=h
   obtain⟨us,rfl,h1,h3⟩:=hr.clo_
   obtain⟨g1,g2⟩:=SlotsOk.rep st l l' us.toList h (by rw[Array.length_toList];omega) (fun j x u hx hu=>h3 j x u hx (by simpa using hu))
   exact .clo _ _ us (by rw[g1];exact h1) (fun j x u hx hu=>g2 j x u hx (by simpa using hu))
  | f y=>
   cases y with
   | fc f' l'=>
    simp only[SlotOk]at h
    obtain⟨rfl,h⟩:=h
    obtain⟨us,rfl,h1,h3⟩:=hr.clo_
    obtain⟨g1,g2⟩:=SlotsOk.rep st l (l'.map .f) us.toList h (by rw[Array.length_toList];omega) (fun j x u hx hu=>h3 j x u hx (by simpa using hu))
    rw[List.length_map]at g1
    exact .f (.fc _ _ us (by rw[g1];exact h1) (fun j x u hx hu=>by
     have:=g2 j (.f x) u (by rw[List.getElem?_map,hx];rfl) (by simpa using hu)
     cases this with
     | f h=>exact h))
   | _=>simp only[SlotOk]at h
  | _=>simp only[SlotOk]at h
theorem SlotsOk.rep (st:St P G H Z w):∀ (l l':List AV) (us:List Value),SlotsOk H H' nw l l'→us.length=l.length→(∀ (j:Nat) (x:AV) (u:Value),l[j]? = some x→us[j]? = some u→RepA G Z w x u)→
  l'.length=l.length∧∀ (j:Nat) (x:AV) (u:Value),l'[j]? = some x→us[j]? = some u→RepA (wkG G H' nw) (wkZ G H' nw Z) w x u
 | [],l',us,h,_,_=>by
  simp only[SlotsOk]at h
  subst h
  exact⟨rfl,fun j x u h=>by simp at h⟩
 | a::l,l',us,h,hl,hr=>by
  simp only[SlotsOk]at h
  cases l' with
  | nil=>exact h.elim
  | cons b l'=>
   simp only at h
   cases us with
   | nil=>simp at hl
   | cons u us=>
    obtain⟨g1,g2⟩:=SlotsOk.rep st l l' us h.2 (by simpa using hl) (fun j x u hx hu=>hr (j+1) x u (by simpa using hx) (by simpa using hu))
    refine⟨by simp [g1],fun j x u' hx hu=> ?_⟩
    cases j with
    | zero=>
     simp only[List.getElem?_cons_zero,Option.some.injEq]at hx hu
     subst hx hu
     exact SlotOk.rep st a b u h.1 (hr 0 a u rfl rfl)
    | succ j=>exact g2 j x u' (by simpa using hx) (by simpa using hu)
end
end

open Go.RowKit
set_option linter.unusedVariables false
set_option linter.unusedSimpArgs false

theorem NG {H H':Heap}{nw:List Nat} : ∀ {l l':List AV},SlotsOk H H' nw l l'→l.length=l'.length
 | [],l',h=>by
  simp only[SlotsOk]at h
  subst h;rfl
 | a::l,[],h=>by simp [SlotsOk]at h
 | a::l,b::l',h=>by
  simp only[SlotsOk]at h
  exact congrArg (·+1) (NG h.2)
def ObjOk (H H':Heap) (nw:List Nat) (o:Option AObj):AObj→Prop
 | .cells cs'=>∃ cs,o=some (.cells cs)∧SlotsOk H H' nw cs cs'
 | .map m=>o=some (.map m)
 | .ty cs' t=>∃ cs,o=some (.ty cs t)∧SlotsOk H H' nw cs cs'
structure WkOk (H H':Heap) (nw:List Nat):Prop where
 obj:∀ id o',(H' id).2=some o'→(id∈nw∧o'=.cells [])∨(id∉nw∧ObjOk H H' nw (H id).2 o')
 ent:∀ id,100000≤id→(H id).1≤(H' id).1∧((H' id).1=(H id).1→id∉nw)
section
variable {P:Program}{G:QM}{H H':Heap}{nw:List Nat}{Z:Nat→Prop}{w:World}
theorem St.weak (st:St P G H Z w) (hk:WkOk H H' nw):St P (wkG G H' nw) H' (wkZ G H' nw Z) w∧Hist G Z w (wkG G H' nw) (wkZ G H' nw Z) w:=by
 have loc_of:∀ id g o,(wkG G H' nw id).2=some (some (g,o))→(H' id).2.isSome=true∧id∉nw∧(G id).2=some (some (g,o)):=by
  intro id g o h
  simp only[wkG]at h
  split at h
  ·rename_i h1
   split at h
   ·cases h
   ·rename_i h2;exact⟨h1,h2,h⟩
  ·cases h
 refine⟨⟨fun id=>rfl,fun id h=>by simp [wkG,h],fun id o' h=> ?_,fun i1 i2 g o1 o2 h1 h2=>st.inj _ _ _ _ _ (loc_of _ _ _ h1).2.2 (loc_of _ _ _ h2).2.2,fun id g o h hz=> ?_,⟨fun b hb=> ?_,st.zlt.kn.mono fun b hb=>⟨.inl hb,rfl⟩⟩,fun id g o h=>st.glt _ _ _ (loc_of _ _ _ h).2.2,fun id g o h=>st.ones _ _ _ (loc_of _ _ _ h).2.2⟩,
  ⟨rfl,rfl,rfl,Nat.le_refl _,fun _ _ _=>rfl,fun b hb=>⟨.inl hb,rfl⟩,fun b hb=> ?_,fun b hl=> ?_,fun b arr e fz _ h=>⟨arr,e,fz,h,rfl⟩,fun id hid=> ?_,fun id hid e=> ?_⟩⟩
 ·rcases hk.obj id o' h with⟨h1,rfl⟩|⟨h1,h2⟩
  ·exact⟨none,by simp [wkG,h,h1],rfl⟩
  ·cases o' with
   | cells cs'=>
    obtain⟨cs,hcs,hs⟩:=h2
    obtain⟨loc,hl,hob⟩:=st.obj id _ hcs
    refine⟨loc,by simp [wkG,h,h1,hl],?_⟩
    cases loc with
    | none=>
     have:cs = []:=hob
     subst this
     simp only[SlotsOk]at hs
     exact hs
    | some p=>
     obtain⟨g,o⟩:=p
     obtain⟨arr,e,hh,hc⟩:=hob
     refine⟨arr,e,hh,fun j b hj=> ?_⟩
     obtain⟨us,hul,hus⟩:=Za (R:=fun i u=>arr[o+i]? = some u∧u.oneCell'=true∧∀ a,cs[i]? = some a→RepA G Z w a u) cs.length (fun i hi=>by
      obtain⟨u,h3,h4,h5⟩:=hc i _ (List.getElem?_eq_getElem hi)
      exact⟨u,h3,h4,fun a ha=>by rw[List.getElem?_eq_getElem hi]at ha;obtain rfl:=Option.some.inj ha;exact h5⟩)
     obtain⟨g1,g2⟩:=SlotsOk.rep st cs cs' us hs hul (fun j x u hx hu=>by
      obtain⟨u',h3,_,_,h5⟩:=hus j (List.getElem?_eq_some_iff.1 hx).1
      rw[hu]at h3;obtain rfl:=Option.some.inj h3
      exact h5 x hx)
     have hlt:=(List.getElem?_eq_some_iff.1 hj).1
     obtain⟨u,h3,h4,h5,_⟩:=hus j (by omega)
     exact⟨u,h4,h5,g2 j b u hj h3⟩
   | ty cs' tt=>
    obtain⟨cs,hcs,hs⟩:=h2
    obtain⟨loc,hl,hob⟩:=st.obj id _ hcs
    refine⟨loc,by simp [wkG,h,h1,hl],?_⟩
    cases loc with
    | none=>
     exact hob.elim
    | some p=>
     obtain⟨g,o⟩:=p
     obtain⟨h00,arr,hh,hc⟩:=hob
     refine⟨h00,arr,by rw[← NG hs];exact hh,fun j b hj=> ?_⟩
     obtain⟨us,hul,hus⟩:=Za (R:=fun i u=>arr[o+i]? = some u∧u.oneCell'=true∧∀ a,cs[i]? = some a→RepA G Z w a u) cs.length (fun i hi=>by
      obtain⟨u,h3,h4,h5⟩:=hc i _ (List.getElem?_eq_getElem hi)
      exact⟨u,h3,h4,fun a ha=>by rw[List.getElem?_eq_getElem hi]at ha;obtain rfl:=Option.some.inj ha;exact h5⟩)
     obtain⟨g1,g2⟩:=SlotsOk.rep st cs cs' us hs hul (fun j x u hx hu=>by
      obtain⟨u',h3,_,_,h5⟩:=hus j (List.getElem?_eq_some_iff.1 hx).1
      rw[hu]at h3;obtain rfl:=Option.some.inj h3
      exact h5 x hx)
     have hlt:=(List.getElem?_eq_some_iff.1 hj).1
     obtain⟨u,h3,h4,h5,_⟩:=hus j (by omega)
     exact⟨u,h4,h5,g2 j b u hj h3⟩
   | _=>
    obtain⟨loc,hl,hob⟩:=st.obj id _ h2
    refine⟨loc,by simp [wkG,h,h1,hl],?_⟩
    cases loc with
    | none=>exact hob
    | some p=>
     obtain⟨g,o⟩:=p
     exact hob
 ·obtain⟨h1,h2,h3⟩:=loc_of _ _ _ h
  rcases hz with hz|⟨id2,o2,h4,h5⟩
  ·exact st.disj _ _ _ h3 hz
  ·have:=st.inj _ _ _ _ _ h3 h4
   subst this
   rcases h5 with h5|h5
   ·rw[h5]at h1;cases h1
   ·exact h2 h5
 ·rcases hb with hb|⟨id,o,h1,_⟩
  ·exact st.zlt b hb
  ·exact st.glt _ _ _ h1
 ·rcases hb with hb|⟨id,o,h1,_⟩
  ·exact .inl hb
  ·exact .inr (.inl ⟨id,o,h1⟩)
 ·obtain⟨id,o,h⟩:=hl
  exact .inl ⟨id,o,(loc_of _ _ _ h).2.2⟩
 ·rw[st.ver];exact(hk.ent id hid).1
 ·rw[st.ver]at e
  have hn:=(hk.ent id hid).2 e
  simp only[wkG,hn,if_false]
  split
  ·exact .inr rfl
  ·exact .inl rfl
end

def look (t:Nat):List (Nat × AV)→AV
 | []=> .any
 | (s,a)::l=>if t=s then a else look t l
def mkE (n:Nat) (l:List (Nat × AV)):Env:=⟨n,fun t=>look t l⟩
instance:Coe (List AV) AObj:=⟨AObj.cells⟩
def VP (id:Nat):List (Nat × Nat × AObj)→Nat × Option AObj
 | []=>(0,none)
 | (i,v,ob)::l=>if id=i then(v,some ob)else VP id l
def mkH (l:List (Nat × Nat × AObj)):Heap:=fun id=>VP id l
theorem look_nil {t:Nat} : look t []=.any:=rfl
theorem look_cons {t s:Nat}{a:AV}{l:List (Nat × AV)} : look t ((s,a)::l)=if t=s then a else look t l:=rfl
theorem lookH_nil {t:Nat} : VP t []=(0,none):=rfl
theorem lookH_cons {t s v:Nat}{ob:AObj}{l:List (Nat × Nat × AObj)} : VP t ((s,v,ob)::l)=if t=s then(v,some ob)else VP t l:=rfl
theorem mkE_f {n t:Nat}{l:List (Nat × AV)} : (mkE n l).f t=look t l:=rfl
theorem mkE_eq {n:Nat}{l:List (Nat × AV)} : mkE n l=⟨n,fun t=>look t l⟩:=rfl
theorem mkE_n {n:Nat}{l:List (Nat × AV)} : (mkE n l).n=n:=rfl
theorem mkH_at {t:Nat}{l:List (Nat × Nat × AObj)} : mkH l t=VP t l:=rfl
theorem SlotsOk.fs {H H':Heap}{nw:List Nat} : ∀ {l l':List FV},l=l'→SlotsOk H H' nw (l.map .f) (l'.map .f)
 | [],_,rfl=>rfl
 | x::l,_,rfl=>⟨.inl rfl,SlotsOk.fs rfl⟩
theorem SlotsOk.of_eq {H H':Heap}{nw:List Nat}{cs0:List AV}{l:List FV}(h:cs0=l.map .f):SlotsOk H H' nw cs0 (l.map .f):=by subst h;exact SlotsOk.fs rfl
section
variable {H H':Heap}{nw:List Nat}
theorem so_ff {x y:FV} : SlotOk H H' nw (.f x) (.f y)=(x=y∨(x=.nil∧∃ sz,y=.fr sz [])):=by rw[SlotOk]
theorem so_fs {x:FV}{id ver sz off n:Nat} : SlotOk H H' nw (.f x) (.sl id ver sz off n)=(x=.nil∧off=0∧n=0∧id∈nw∧ver=(H' id).1):=by rw[SlotOk]
theorem so_ss {id ver sz off n id' ver' sz' off' n':Nat} : SlotOk H H' nw (.sl id ver sz off n) (.sl id' ver' sz' off' n')=(id'=id∧sz'=sz∧off'=off∧n'=n∧ver=(H id).1∧ver'=(H' id).1∧id∉nw∧(H id).2.isSome=true∧(H' id).2.isSome=true):=by rw[SlotOk]
theorem so_pp {id ver off id' ver' off':Nat} : SlotOk H H' nw (.ptr id ver off) (.ptr id' ver' off')=(id'=id∧off'=off∧ver=(H id).1∧ver'=(H' id).1∧id∉nw∧(H id).2.isSome=true∧(H' id).2.isSome=true):=by rw[SlotOk]
theorem so_mm {id ver id' ver':Nat} : SlotOk H H' nw (.map id ver) (.map id' ver')=(id'=id∧ver=(H id).1∧ver'=(H' id).1∧id∉nw∧(H id).2.isSome=true∧(H' id).2.isSome=true):=by rw[SlotOk]
theorem so_aa {l l':List AV} : SlotOk H H' nw (.agg l) (.agg l')=SlotsOk H H' nw l l':=by rw[SlotOk]
end
def Small (H:Heap):Prop:=∀ id,100000≤id→(id≠100001∧id≠100002∧id≠100101∧id≠100102∧id≠100103)→H id=(0,none)
def okId (i:Nat):Bool:=decide (i<100000∨i=100001∨i=100002∨i=100101∨i=100102∨i=100103)
def PtEq (H K:Heap):Prop:=(H 100001).1=(K 100001).1∧(H 100002).1=(K 100002).1∧(H 100101).1=(K 100101).1∧(H 100102).1=(K 100102).1∧(H 100103).1=(K 100103).1
theorem QC {H:Heap}{i:Nat}{x:Nat × Option AObj}(hi:okId i=true) (h:Small H):Small (upd H i x):=fun id hid hne=>by
 simp only[okId,decide_eq_true_eq]at hi
 rw[QL _ _ _ _ (by omega)];exact h id hid hne
theorem QG:∀ {l:List (Nat × Nat × AObj)},l.all (fun p=>okId p.1)=true→Small (mkH l)
 | [],_=>fun id _ _=>rfl
 | (i,v,cs)::l,h=>fun id hid hne=>by
  simp only[List.all_cons,Bool.and_eq_true,okId,decide_eq_true_eq]at h
  rw[mkH_at,lookH_cons,if_neg (by omega)]
  exact QG h.2 id hid hne
def ElOk (H H':Heap) (nw:List Nat) (env:Env) (n:Nat):List (Nat × AV)→Prop
 | []=>True
 | (t,a)::l=>t<n∧SlotOk H H' nw (env.f t) a∧ElOk H H' nw env n l
def HlOk (H H':Heap) (nw:List Nat):List (Nat × Nat × AObj)→Prop
 | []=>True
 | (i,_,.cells cs)::l=>(if nw.contains i=true then cs = []else ∃ cs0,(H i).2=some (.cells cs0)∧SlotsOk H H' nw cs0 cs)∧HlOk H H' nw l
 | (i,_,.map m)::l=>(nw.contains i=false∧(H i).2=some (.map m))∧HlOk H H' nw l
 | (i,_,.ty cs t)::l=>(nw.contains i=false∧∃ cs0,(H i).2=some (.ty cs0 t)∧SlotsOk H H' nw cs0 cs)∧HlOk H H' nw l
def Wk (env:Env) (H:Heap) (nw:List Nat) (n:Nat) (el:List (Nat × AV)) (hl:List (Nat × Nat × AObj)):Prop:=
 env.n=n∧Small H∧(hl.all (fun p=>okId p.1)=true)∧(nw.all (fun i=>decide (i<100000))=true)∧PtEq H (mkH hl)∧ElOk H (mkH hl) nw env n el∧HlOk H (mkH hl) nw hl
section
variable {P:Program}{env:Env}{H:Heap}{nw:List Nat}{n:Nat}{el:List (Nat × AV)}{hl:List (Nat × Nat × AObj)}
theorem QBF {H':Heap} : ∀ {hl:List (Nat × Nat × AObj)},HlOk H H' nw hl→∀ id o',(VP id hl).2=some o'→(id∈nw∧o'=.cells [])∨(id∉nw∧ObjOk H H' nw (H id).2 o')
 | [],_,id,o',h=>by cases h
 | (i,v,.map m)::l,hk,id,o',h=>by
  rw[lookH_cons]at h
  by_cases e:id=i
  ·subst e
   rw[if_pos rfl]at h
   obtain rfl:=Option.some.inj h
   exact .inr ⟨by simpa using hk.1.1,hk.1.2⟩
  ·rw[if_neg e]at h
   exact QBF hk.2 id o' h
 | (i,v,.ty rs rt)::l,hk,id,o',h=>by
  rw[lookH_cons]at h
  by_cases e:id=i
  ·subst e
   rw[if_pos rfl]at h
   obtain rfl:=Option.some.inj h
   exact .inr ⟨by simpa using hk.1.1,hk.1.2⟩
  ·rw[if_neg e]at h
   exact QBF hk.2 id o' h
 | (i,v,.cells cs)::l,hk,id,o',h=>by
  rw[lookH_cons]at h
  by_cases e:id=i
  ·subst e
   rw[if_pos rfl]at h
   obtain rfl:=Option.some.inj h
   have hk1:=hk.1
   split at hk1
   ·rename_i hc;subst hk1;exact .inl ⟨by simpa using hc,rfl⟩
   ·rename_i hc;exact .inr ⟨by simpa using hc,hk1⟩
  ·rw[if_neg e]at h
   exact QBF hk.2 id o' h
theorem el_ok {H':Heap} : ∀ {el:List (Nat × AV)},ElOk H H' nw env n el→∀ t,SlotOk H H' nw (env.f t) (look t el)∧(n≤t→look t el=.any)
 | [],_,t=>⟨by rw[look_nil];cases env.f t<;>simp [SlotOk],fun _=>rfl⟩
 | (s,a)::l,hk,t=>by
  rw[look_cons]
  by_cases e:t=s
  ·subst e
   rw[if_pos rfl]
   exact⟨hk.2.1,fun h=>absurd hk.1 (by omega)⟩
  ·rw[if_neg e]
   exact el_ok hk.2.2 t
theorem Wk.sim (h:Wk env H nw n el hl){s:At0}{a:Act}{w:World}(hs:Sim P s env H a w):Sim P s (mkE n el) (mkH hl) a w:=by
 obtain⟨hn,hsm,hal,hnw,hpt,he,hh⟩:=h
 obtain⟨G,Z,st,hr,hd,hi⟩:=hs
 have hwk:WkOk H (mkH hl) nw:=⟨QBF hh,fun id hid=>by
  have h1:(H id).1=(mkH hl id).1:=by
   by_cases e:id≠100001∧id≠100002∧id≠100101∧id≠100102∧id≠100103
   ·rw[hsm id hid e,QG hal id hid e]
   ·obtain⟨p1,p2,p3,p4,p5⟩:=hpt
    have:id=100001∨id=100002∨id=100101∨id=100102∨id=100103:=by omega
    rcases this with rfl|rfl|rfl|rfl|rfl<;>assumption
  refine⟨Nat.le_of_eq h1,fun _ hm=> ?_⟩
  have:=List.all_eq_true.1 hnw id hm
  simp only[decide_eq_true_eq]at this
  omega⟩
 obtain⟨s1,s2⟩:=st.weak hwk
 refine⟨_,_,s1,⟨by rw[hr.len,hn];rfl,fun i hi=>(el_ok he i).2 hi,fun i v hv=> ?_⟩,hd,hi.trans s2⟩
 exact SlotOk.rep st _ _ v (el_ok he i).1 (hr.at_ i v hv)
theorem ax_loopS {S:Type}{R:Env→Heap→Prop}{Λ : Lams}{c:Yl}{k:List It}(n:Nat) (E:S→List (Nat × AV)) (HH:S→List (Nat × Nat × AObj)) (inv:S→Prop) (μ : S→Nat) (s0:S) (nw:List Nat) (h0:inv s0) (hw:Wk env H nw n (E s0) (HH s0))
  (hr:∀ s,inv s→Ax P R ((fun env' H'=>∃ s',inv s'∧μ s' < μ s∧Wk env' H' [] n (E s') (HH s'))::Λ) (.code c:: .again::k) (mkE n (E s)) (mkH (HH s))):Ax P R Λ (.code (.loop c)::k) env H:=fun s t hm a w hs=>by
 cases hm with
 | code hc hm=>
  obtain⟨c1,rfl,h1⟩:=Yc hc
  rename_i t
  have key:∀ m (x:S) a w,μ x=m→inv x→Sim P s (mkE n (E x)) (mkH (HH x)) a w→Goal P (Fin P R s) (.code c1:: .inLoop c1::t) a w:=by
   intro m
   induction m using Nat.strongRecOn with
   | _ m ih=>
    intro x a w hm' hI hs
    refine(hr x hI).go (.code h1 (.again (fun env' H' a' w' hL hs'=> ?_) hm)) hs
    obtain⟨x',hI',hlt,hwk⟩:=hL
    exact Goal.steps (fun b cs=> .one step_inLoop) (ih (μ x') (hm'▸hlt) x' a' w' rfl hI' (hwk.sim hs'))
  exact Goal.steps (fun b cs=> .one step_loop) (key _ s0 a w rfl h0 (hw.sim hs))
end

inductive RC where
 | v (x:FV)
 | own (sz n:Nat) (cs:List FV)
inductive RS where
 | c (x:RC)
 | agg (l:List RC)
def RcOk (H:Heap):RC→AV→Prop
 | .v x,a=>a=.f x
 | .own sz n cs,a=>(a=.f .nil∧n=0∧cs = [])∨∃ id ver,a=.sl id ver sz 0 n∧cellsOf ver (H id)=some (cs.map .f)∧n*sz≤cs.length
def YD (H:Heap):List RC→List AV→Prop
 | [],l=>l = []
 | r::rs,l=>match l with
  | a::l=>RcOk H r a∧YD H rs l
  | []=>False
def RsOk (H:Heap):List RS→List AV→Prop
 | [],l=>l = []
 | .c r::rs,l=>(match l with
  | a::l=>RcOk H r a∧RsOk H rs l
  | []=>False)
 | .agg rc::rs,l=>(match l with
  | .agg cs::l=>YD H rc cs∧RsOk H rs l
  | _=>False)
def idsC:List AV→List Nat
 | []=>[]
 | .sl id _ _ _ _::l=>id::idsC l
 | _::l=>idsC l
def idsS:List AV→List Nat
 | []=>[]
 | .sl id _ _ _ _::l=>id::idsS l
 | .agg cs::l=>idsC cs++idsS l
 | _::l=>idsS l
def Rets (rs:List RS) (r:AV) (H:Heap):Prop:=∃ l,r=QI l∧RsOk H rs l∧(idsS l).Nodup
def H0:Heap:=fun _=>(0,none)
def FRet (P:Program) (f:FuncId) (args:List AV) (rs:List RS):Prop:=FCall P f args H0 (Rets rs)
theorem H0_at {t:Nat} : H0 t=(0,none):=rfl
theorem YM:Small H0:=fun _ _ _=>rfl

def putC (t:Nat):Nat→RC→AV
 | _,.v x=> .f x
 | k,.own sz n _=> .sl (t+1000*k) 1 sz 0 n
def YR:Nat→RC→Nat
 | k,.v _=>k
 | k,.own ..=>k+1
def Vk (t:Nat):Nat→List RC→List AV
 | _,[]=>[]
 | k,r::rs=>putC t k r::Vk t (YR k r) rs
def Qo:Nat→List RC→Nat
 | k,[]=>k
 | k,r::rs=>Qo (YR k r) rs
def putS (t:Nat):Nat→List RS→List AV
 | _,[]=>[]
 | k,.c r::rs=>putC t k r::putS t (YR k r) rs
 | k,.agg l::rs=> .agg (Vk t k l)::putS t (Qo k l) rs
def QAl (t:Nat) (k:Nat) (r:RC) (H:Heap):Heap:=match r with
 | .v _=>H
 | .own _ _ cs=>upd H (t+1000*k) (1,some (.cells (cs.map .f)))
def XN (t:Nat):Nat→List RC→Heap→Heap
 | _,[],H=>H
 | k,r::rs,H=>XN t (YR k r) rs (QAl t k r H)
def Qz (t:Nat):Nat→List RS→Heap→Heap
 | _,[],H=>H
 | k,.c r::rs,H=>Qz t (YR k r) rs (QAl t k r H)
 | k,.agg l::rs,H=>Qz t (Qo k l) rs (XN t k l H)
def FV.plain:FV→Bool
 | .fr ..=>false
 | .fp ..=>false
 | .fm ..=>false
 | .fc ..=>false
 | _=>true
def RC.all (p:FV→Bool):RC→Bool
 | .v x=>p x
 | .own _ _ cs=>cs.all p
def RS.all (p:FV→Bool):RS→Bool
 | .c r=>r.all p
 | .agg l=>l.all (RC.all p)
theorem RepF.plain {Z Z':Nat→Prop}{w w':World}{x:FV}{v:Value}(h:RepF Z w x v) (hp:x.plain=true):RepF Z' w' x v:=by
 cases h<;>first|(constructor;done)|cases hp
abbrev jO:=Option (Nat × Bool)
def jm (d s:Nat) (g:jO:=none):LO:=⟨some d, .move (.tmp s),g⟩
def ji (d:Nat) (n:Int) (g:jO:=none):LO:=⟨some d, .move (.const (.int .i64 n)),g⟩
def jf (d k s:Nat) (g:jO:=none):LO:=⟨some d, .fieldAddr k (.tmp s),g⟩
def jl (d s:Nat) (g:jO:=none):LO:=⟨some d, .load none (.tmp s),g⟩
def jL (d k s:Nat) (g:jO:=none):LO:=⟨some d, .load (some k) (.tmp s),g⟩
def jn (d s:Nat) (g:jO:=none):LO:=⟨some d, .nilChk (.tmp s),g⟩
def je (d s:Nat) (g:jO:=none):LO:=⟨some d, .len .false (.tmp s),g⟩
def jx (d k s t:Nat) (g:jO:=none):LO:=⟨some d, .indexAddr k (.tmp s) (.tmp t),g⟩
def jT (k s t:Nat) (g:jO:=none):LO:=⟨none, .store k (.tmp s) (.tmp t),g⟩
def jC (d:Nat) (o:BinOp) (s:Nat) (n:Int) (g:jO:=none):LO:=⟨some d, .bin o .false (.tmp s) (.const (.int .i64 n)),g⟩
def jB (d:Nat) (o:BinOp) (s t:Nat) (g:jO:=none):LO:=⟨some d, .bin o .false (.tmp s) (.tmp t),g⟩
def jq (d f:Nat) (l:List Operand) (g:jO:=none):LO:=⟨some d, .call (.func f) l,g⟩
def jt (d s k:Nat) (g:jO:=none):LO:=⟨some d, .extract (.tmp s) k,g⟩
def ju (d s:Nat) (g:jO:=none):LO:=⟨some d, .un .not (.tmp s),g⟩
def jA (d s:Nat) (x y:Operand) (g:jO:=none):LO:=⟨some d, .pick (.tmp s) x y,g⟩
def km (d s:Nat) (o:List Nat) (g:jO:=none):DO:=⟨some d, .move (.tmp s),g,o⟩
def kf (d k s:Nat) (o:List Nat) (g:jO:=none):DO:=⟨some d, .fieldAddr k (.tmp s),g,o⟩
def kl (d s:Nat) (o:List Nat) (g:jO:=none):DO:=⟨some d, .load none (.tmp s),g,o⟩
def kn (d s:Nat) (o:List Nat) (g:jO:=none):DO:=⟨some d, .nilChk (.tmp s),g,o⟩
def kx (d k s t:Nat) (o:List Nat) (g:jO:=none):DO:=⟨some d, .indexAddr k (.tmp s) (.tmp t),g,o⟩
end Go.Proofs.YtjfchihkhpinmaaGreatDoor
