/-
  Calls whose obligations are met by themselves; slices that are sliced further than they are long, numbers appended, appends within a row. No statement of the seat is proved here; no conditions.
-/
import Derived.Test.YtjfchihkhpinmaaGreatDoorPtr
import Derived.Lib.AppendZerosOnto
import Derived.Lib.Overlaps
namespace Go.Proofs.YtjfchihkhpinmaaGreatDoor
open Go.RowKit
set_option linter.unusedVariables false
set_option linter.unusedSimpArgs false

theorem QCc {α : Type}{enc : α→List FV}{sz:Nat}{l:List α}(hs:∀ x,(enc x).length=sz):l.length*sz≤(rowF enc l).length:=by rw[QD hs];exact Nat.le_refl _
theorem OJ {α : Type}{enc : α→List FV}{sz:Nat}{l:List α}{t:List FV}(hs:∀ x,(enc x).length=sz):l.length*sz≤(rowF enc l++t).length:=by rw[List.length_append,QD hs];exact Nat.le_add_right _ _
section
variable {P:Program}{R:Env→Heap→Prop}{Λ : Lams}{k:List It}{env:Env}{H:Heap}{d j:Nat}{f:Operand}{args:List Operand}{g:Option (Nat × Bool)}{los:List LO}{dos:List DO}{acc:List Fp}{od:List Nat}{fid:FuncId}{args' tl:List AV}{ri rs:List RS}{pcs pcs':List RC}
theorem gP (hF:QBj P fid pcs ri tl pcs' rs) (id ver:Nat) (cs l tl0:List AV)
  (h:srun P R 300 Λ (.ops los::k) (putE env (some d) (QI (putS d (Qo 0 pcs') rs))) (upd (Qz d (Qo 0 pcs') rs (XN d 0 pcs' (Xh (idsC cs++idsS l) H))) id (ver,some (.cells (Vk d 0 pcs'))))) (hg:gd g env=some true:=by rfl) (hfn:evA env f=.f (.fn (.func fid)):=by rfl) (ha:args.map (evA env)=.ptr id ver 0::(l++tl0):=by rfl) (hc:cellsOf ver (H id)=some cs:=by rfl)
  (hpc:YD H pcs cs:=by(repeat (first|exact rfl|exact trivial|refine And.intro rfl ?_|refine And.intro (Or.inr ⟨_,_,rfl,rfl,(by first|exact Nat.le_refl _|exact QCc (fun _=>rfl)|exact OJ (fun _=>rfl))⟩) ?_));first|done|fail) (hri:RsOk H ri l:=by(repeat (first|exact rfl|exact trivial|refine And.intro rfl ?_|refine And.intro (Or.inr ⟨_,_,rfl,rfl,(by first|exact Nat.le_refl _|exact QCc (fun _=>rfl)|exact OJ (fun _=>rfl))⟩) ?_));first|done|fail) (hnd:(idsC cs++idsS l).Nodup:=by simp [idsC,idsS]) (hni:id∉idsC cs++idsS l:=by simp [idsC,idsS]) (htl:LeL tl0 tl:=by first|exact LeL.refl _|((repeat (first|exact LeL.refl _|exact LeA.refl _|exact LeA.nil _|refine LeL.cons ?_ ?_|refine LeA.agg ?_));first|done|fail)) (hp:tl.all AV.pure=true:=by rfl) (hfree:Free d H:=by first|exact Vx|exact QQ rfl|(repeat (first|exact Vx|exact QQ rfl|exact QQ (by first|(simp;done)|fail)|refine Qa rfl ?_|refine YH ?_));first|done|fail):Ax P R Λ (.ops (⟨some d,.call f args,g⟩::los)::k) env H:=
 callPm hg hF hfn id ver cs l tl0 ha hc hpc hri hnd hni htl hp hfree h
theorem gM (hF:FRetM P fid ri tl rs) (l tl0:List AV) (h:srun P R 300 Λ (.ops los::k) (putE env (some d) (QI (putS d 0 rs))) (Qz d 0 rs (Xh (idsS l) H))) (hg:gd g env=some true:=by rfl) (hfn:evA env f=.f (.fn (.func fid)):=by rfl) (ha:args.map (evA env)=l++tl0:=by rfl)
  (hri:RsOk H ri l:=by(repeat (first|exact rfl|exact trivial|refine And.intro rfl ?_|refine And.intro (Or.inr ⟨_,_,rfl,rfl,(by first|exact Nat.le_refl _|exact QCc (fun _=>rfl)|exact OJ (fun _=>rfl))⟩) ?_));first|done|fail) (hnd:(idsS l).Nodup:=by simp [idsC,idsS]) (htl:LeL tl0 tl:=by first|exact LeL.refl _|((repeat (first|exact LeL.refl _|exact LeA.refl _|exact LeA.nil _|refine LeL.cons ?_ ?_|refine LeA.agg ?_));first|done|fail)) (hp:tl.all AV.pure=true:=by rfl) (hfree:Free d H:=by first|exact Vx|exact QQ rfl|(repeat (first|exact Vx|exact QQ rfl|exact QQ (by first|(simp;done)|fail)|refine Qa rfl ?_|refine YH ?_));first|done|fail):Ax P R Λ (.ops (⟨some d,.call f args,g⟩::los)::k) env H:=
 callM hg hF hfn l tl0 ha hri hnd htl hp hfree h
theorem gG (hF:FRet P fid args' rs) (hs:FzsOk H (args.map (evA env)) args') (h:srun P R 300 Λ (.ops los::k) (putE env (some d) (QI (putS d 0 rs))) (Qz d 0 rs H)) (hg:gd g env=some true:=by rfl) (hfn:evA env f=.f (.fn (.func fid)):=by rfl) (hp:rs.all (RS.all FV.plain)=true:=by first|rfl|(simp [RS.all,RC.all,FV.plain];done)) (hfree:Free d H:=by first|exact Vx|exact QQ rfl|(repeat (first|exact Vx|exact QQ rfl|exact QQ (by first|(simp;done)|fail)|refine Qa rfl ?_|refine YH ?_));first|done|fail):Ax P R Λ (.ops (⟨some d,.call f args,g⟩::los)::k) env H:=
 callG hg hF hfn hs hp hfree h
end

section
variable {P:Program}{R:Env→Heap→Prop}{Λ : Lams}{k:List It}{env:Env}{H:Heap}
theorem QB0 {c:Oper}{sz:Nat}{x:Operand}{lo hi:Option Operand}(h:Xe P c.op=some (.slice sz x lo hi)):∃ ty e,c.op=.slice ty x lo hi none∧elemOf? P ty=some e∧sizeOf? P e=some sz:=by
 cases ho:c.op<;>rw[ho]at h<;>simp only[Xe]at h<;>try (cases h;done)
 case slice ty x1 lo1 hi1 mx1=>
  split at h
  ·rename_i e he
   split at h
   ·rename_i sz' hs
    simp only[Option.some.injEq,LOp.slice.injEq]at h
    obtain⟨rfl,rfl,rfl,rfl⟩:=h
    exact⟨ty,e,rfl,he,hs⟩
   all_goals cases h
  ·split at h<;>cases h
 case binOp=>
  split at h
  ·rename_i hn
   obtain rfl:=Option.some.inj h
   obtain⟨_,_,⟨h1,_⟩|⟨h1,_⟩⟩:=Xb hn<;>cases h1
  ·split at h
   ·rename_i hn
    obtain rfl:=Option.some.inj h
    obtain⟨_,_,neg,h1,_⟩:=YW hn
    cases h1
   ·cases h
 case alloc=>obtain⟨_,_,h⟩:=Option.map_eq_some_iff.1 h;cases h
 case load=>obtain⟨_,_,h⟩:=Option.map_eq_some_iff.1 h;cases h
 case store=>obtain⟨_,_,h⟩:=Option.map_eq_some_iff.1 h;cases h
 case build=>
  split at h
  ·split at h
   ·obtain⟨_,_,h⟩:=Option.map_eq_some_iff.1 h;cases h
   ·cases h
  ·cases h
 case field=>
  split at h
  ·obtain⟨_,_,h⟩:=Option.map_eq_some_iff.1 h;cases h
  ·cases h
 case indexAddr=>
  split at h
  ·obtain⟨_,_,h⟩:=Option.map_eq_some_iff.1 h;cases h
  ·cases h
 all_goals
  repeat' (first|cases h;done|split at h)
def QDz (env:Env) (o:Option Operand) (d a:Nat):Prop:=match o with
 | none=>a=d
 | some l=>∃ q,evA env l=.f (.int q a)
theorem RepA.slc_sl {G:QM}{Z:Nat→Prop}{w:World}{id ver sz off n c:Nat}{v:Value}(h:RepA G Z w (.slc id ver sz off n c) v):RepA G Z w (.sl id ver sz off n) v:=by
 cases h with
 | slcOld _ _ _ _ _ _ _ h1 h2 h3=>exact .slOld _ _ _ _ _ _ h1 h2 h3
 | slcLive _ _ _ _ _ _ g o h1 h2 h3 h4=>exact .slLive _ _ _ _ _ g o c h1 h2 h3 h4
theorem EnvR.reg {G:QM}{Z:Nat→Prop}{w:World}{env:Env}{t:Nat}{ts:Array Value}(hr:EnvR G Z w env ts){a b:AV}(he:env.f t=a) (hna:a≠ .any) (h:∀ v,RepA G Z w a v→RepA G Z w b v):EnvR G Z w { n:=env.n,f:=upd env.f t b } ts:=by
 refine⟨hr.len,fun i hi=> ?_,fun i v hv=> ?_⟩
 ·by_cases e:i=t
  ·subst e
   have:=hr.out i hi
   rw[he]at this;exact absurd this hna
  ·show upd env.f t _ i=_
   rw[QL (h:=e)];exact hr.out i hi
 ·by_cases e:i=t
  ·subst e
   have:=hr.at_ i v hv
   rw[he]at this
   show RepA G Z w (upd env.f i _ i) v
   rw[upd_same]
   exact h v this
  ·show RepA G Z w (upd env.f t _ i) v
   rw[QL (h:=e)];exact hr.at_ i v hv
def Stop:List It→Prop
 | .ops _::_=>True
 | .code _::_=>True
 | _=>False
theorem QDD {k:List It}(hk:Stop k){Q:Env→Heap→Prop}(hs:∀ (s:At0) (a:Act) (w:World),Sim P s env H a w→∃ env' H',Q env' H'∧Sim P s env' H' a w) (h:∀ env' H',Q env' H'→Ax P R Λ k env' H'):Ax P R Λ k env H:=by
 cases k with
 | nil=>exact hk.elim
 | cons i k=>
  cases i with
  | ops l=>
   exact fun s ops l' t hl hm a w hsim=>by
    obtain⟨env',H',hq,h2⟩:=hs s a w hsim
    exact h env' H' hq s ops l' t hl hm a w h2
  | code c=>
   exact fun s t hm a w hsim=>by
    obtain⟨env',H',hq,h2⟩:=hs s a w hsim
    exact(h env' H' hq).go hm h2
  | dops l k acc=>exact hk.elim
  | blk id=>exact hk.elim
  | again=>exact hk.elim
theorem ax_slc {k:List It}(hk:Stop k) (t:Nat){id ver sz off n:Nat}{cs:List AV}(he:env.f t=.sl id ver sz off n) (hn:0<n) (hH:cellsOf ver (H id)=some cs) (hx:∀ c,n≤c→c≤maxLen→Ax P R Λ k { n:=env.n,f:=upd env.f t (.slc id ver sz off n c) } H):Ax P R Λ k env H:=by
 by_cases hlt:t<env.n
 ·refine QDD hk (Q:=fun e' H'=>∃ c,n≤c∧c≤maxLen∧e' = { n:=env.n,f:=upd env.f t (.slc id ver sz off n c) }∧H'=H) (fun s a w hsim=> ?_) (fun e' H' ⟨c,h1,h2,h3,h4⟩=>by subst h3 h4;exact hx c h1 h2)
  obtain⟨G,Z,st,hr,hd,hi⟩:=hsim
  obtain⟨loc,hG,-,-⟩:=st.cells hH
  have hv0:a.tmps[t]? = some (a.tmps[t]'(by rw[hr.len];exact hlt)):=Array.getElem?_eq_getElem _
  have hrep:=hr.at_ t _ hv0
  rw[he]at hrep
  rcases hrep.sl_ hG with⟨h0,-⟩|⟨g,o,c,rfl,hv,h1,h2,h3⟩
  ·omega
  ·refine⟨_,H,⟨c,h1,h2,rfl,rfl⟩,G,Z,st,?_,hd,hi⟩
   refine⟨hr.len,fun i hi=> ?_,fun i v hv'=> ?_⟩
   ·have hi2:env.n≤i:=hi
    have:i≠t:=by omega
    show upd env.f t _ i=_
    rw[QL (h:=this)];exact hr.out i hi
   ·by_cases e:i=t
    ·subst e
     rw[hv0]at hv'
     obtain rfl:=Option.some.inj hv'
     show RepA G Z w (upd env.f i _ i) _
     rw[upd_same,hv]
     exact .slcLive _ _ _ _ _ _ g o hG h1 h2 h3
    ·show RepA G Z w (upd env.f t _ i) v
     rw[QL (h:=e)];exact hr.at_ i v hv'
 ·have:∀ c,∃ e':Env,e' = { n:=env.n,f:=upd env.f t (.slc id ver sz off n c) }:=fun c=>⟨_,rfl⟩
  refine QDD hk (Q:=fun _ _=>False) (fun s a w hsim=> ?_) (fun _ _ h=>h.elim)
  obtain⟨G,Z,st,hr,hd,hi⟩:=hsim
  have:=hr.out t (by omega)
  rw[he]at this;cases this
theorem QCI {k:List It}(hk:Stop k) (t:Nat){id ver sz off n c:Nat}(he:env.f t=.slc id ver sz off n c) (hx:Ax P R Λ k { n:=env.n,f:=upd env.f t (.sl id ver sz off n) } H):Ax P R Λ k env H:=
 QDD hk (Q:=fun e' H'=>e' = { n:=env.n,f:=upd env.f t (.sl id ver sz off n) }∧H'=H) (fun s a w ⟨G,Z,st,hr,hd,hi⟩=>⟨_,H,⟨rfl,rfl⟩,G,Z,st,hr.reg he (by simp) fun v h=>h.slc_sl,hd,hi⟩) (fun e' H' ⟨h1,h2⟩=>by subst h1 h2;exact hx)
theorem ax_wide {k:List It}(hk:Stop k) (t:Nat) (m:Nat){id ver sz off n c:Nat}{cs:List AV}(he:env.f t=.slc id ver sz off n c) (hH:cellsOf ver (H id)=some cs) (hm:m≤(off+c)*sz) (hx:Ax P R Λ k env (upd H id (ver,some (.cells (cs++List.replicate (m - cs.length) .any))))):Ax P R Λ k env H:=by
 refine QDD hk (Q:=fun e' H'=>e'=env∧H'=upd H id (ver,some (.cells (cs++List.replicate (m - cs.length) .any)))) (fun s a w ⟨G,Z,st,hr,hd,hi⟩=> ?_) (fun e' H' ⟨h1,h2⟩=>by subst h1 h2;exact hx)
 obtain⟨loc,hG,hob,hH2⟩:=st.cells hH
 by_cases hlt:t<env.n
 ·have hv0:a.tmps[t]? = some (a.tmps[t]'(by rw[hr.len];exact hlt)):=Array.getElem?_eq_getElem _
  have hrep:=hr.at_ t _ hv0
  rw[he]at hrep
  obtain⟨g,o,rfl,hv,h1,h2,arr,e,fz,hh,hroom⟩:=hrep.slc_ hG
  refine⟨_,_,⟨rfl,rfl⟩,G,Z,st.wide hG hH2 (m:=m) fun arr' e' fz' hh'=> ?_,hr,hd,hi⟩
  rw[hh]at hh'
  simp only[Option.some.injEq,Obj.cells.injEq]at hh'
  rw[← hh'.1];omega
 ·have:=hr.out t (by omega)
  rw[he]at this;cases this
theorem ax_capC {d:Option Nat}{x:Operand}{g:Option (Nat × Bool)}{los:List LO}{k:List It}{id ver sz off n c:Nat}{cs:List AV}(hx:evA env x=.slc id ver sz off n c) (hc:cellsOf ver (H id)=some cs)
  (h:Ax P R Λ (.ops los::k) (putE env d (.f (.int .i64 c))) H) (hg:gd g env=some true:=by rfl):Ax P R Λ (.ops (⟨d,.cap x,g⟩::los)::k) env H:=by
 refine Xl (Q:=fun v H'=>v=.f (.int .i64 c)∧H'=H) hg (fun cc hl G Z w a st he=> ?_) (fun v H' hq=>by obtain⟨rfl,rfl⟩:=hq;exact h)
 obtain⟨cl,t,e,h1,h2,h3,h4,h5⟩:=lowOp_cap hl
 have hr:=he.eval x
 rw[hx]at hr
 obtain⟨loc,hG,hob,hH⟩:=st.cells hc
 intro K X hK
 unfold Oper.wp
 obtain⟨g',o',rfl,hv,hnc,hcm,arr,et,fz,hh,hroom⟩:=hr.slc_ hG
 have:(execOp a.eval cc).run P w=.ok (.value (.int .i64 (c:Nat))) w:=by
  simp [execOp,h1,resolve,h2,h3,h4,invoke,builtin,Builtin.cap_,run_underlying h5,hv,goInt]
 rw[this,Oper.upon_value]
 exact hK _ _ _ G Z w ⟨rfl,rfl⟩ st (Step.refl _ _ _) (.f (.int _ _))
theorem op_slC {G:QM}{Z:Nat→Prop}{w:World}{act:Act}(st:St P G H Z w) (he:EnvR G Z w env act.tmps){cc:Oper}{sz:Nat}{x:Operand}{lo hi:Option Operand}(hl:Xe P cc.op=some (.slice sz x lo hi)){id ver off n c a b:Nat}(hx:evA env x=.slc id ver sz off n c) (hal:VL ver (H id)=true) (hab:a≤b) (hbc:b≤c)
  (hlo:QDz env lo 0 a) (hhi:QDz env hi n b):OpTo P cc G H Z w act (fun v H'=>v=(if a<c then .slc id ver sz (off+a) (b - a) (c - a)else .sl id ver sz (off+a) 0)∧H'=H):=by
 obtain⟨ty,e,h1,h2,h3⟩:=QB0 hl
 have hu:=Qy h2
 unfold sizeOf? at h3
 cases hinf:P.info? e with
 | none=>rw[hinf]at h3;cases h3
 | some inf=>
 rw[hinf]at h3
 have hsz2:inf.size=sz:=by simpa using h3
 have hr:=he.eval x
 rw[hx]at hr
 obtain⟨loc,hG⟩:=st.alive hal
 obtain⟨g',o',rfl,hv,hnc,hcm,arr,et,fz,hh,hroom⟩:=hr.slc_ hG
 have bnd:∀ q (i:Int) (m:Nat) code,0≤i→i≤m→(Instr.sliceBound (.int q i) m code).run P w=.ok i.toNat w:=fun q i m code g0 g1=>by
  simp [Instr.sliceBound,asIntOf,g0,g1]
 have hb:(Instr.sliceBounds true n c (lo.map act.eval) (hi.map act.eval) none).run P w=.ok (a,b,c) w:=by
  cases hi with
  | none=>
   obtain rfl:b=n:=hhi
   cases lo with
   | none=>(obtain rfl:a=0:=hlo);simp [Instr.sliceBounds]
   | some l=>
    obtain⟨ql,hl3⟩:=hlo
    have hlv:=he.eval l
    rw[hl3]at hlv
    simp [Instr.sliceBounds,hlv.int_,bnd ql a b _ (by omega) (by omega)]
  | some h=>
   obtain⟨qh,hh3⟩:=hhi
   have hhv:=he.eval h
   rw[hh3]at hhv
   have hhv2:=hhv.int_
   cases lo with
   | none=>(obtain rfl:a=0:=hlo);simp [Instr.sliceBounds,hhv2,bnd qh b c _ (by omega) (by omega)]
   | some l=>
    obtain⟨ql,hl3⟩:=hlo
    have hlv:=he.eval l
    rw[hl3]at hlv
    simp [Instr.sliceBounds,hhv2,hlv.int_,bnd qh b c _ (by omega) (by omega),bnd ql a b _ (by omega) (by omega)]
 have hrun:(execOp act.eval cc).run P w=.ok (.value (.slice (if c=a then(some ⟨g',o'+off*sz,none⟩:Option Addr)else(some (⟨g',o'+off*sz,none⟩:Addr)).map (·.add (a*sz))) (b - a) (c - a))) w:=by
  simp [execOp,h1,Instr.sliceAt,Instr.slice,run_underlying hu,hv,hb,sizeOf,typeInfo,hinf,hsz2]
 intro K X hK
 unfold Oper.wp
 rw[hrun,Oper.upon_value]
 refine hK _ _ H G Z w ⟨rfl,rfl⟩ st (Step.refl _ _ _) ?_
 by_cases hca:a<c
 ·rw[if_pos hca,if_neg (by omega)]
  simp only[Option.map_some,Addr.add_mid]
  rw[Nat.add_assoc,← Nat.add_mul]
  exact .slcLive id ver sz (off+a) (b - a) (c - a) g' o' hG (by omega) (by omega) ⟨arr,et,fz,hh,by rw[show off+a+(c - a)=off+c by omega];exact hroom⟩
 ·rw[if_neg hca,if_pos (by omega)]
  have h0:b - a=0:=by omega
  have h02:c - a=0:=by omega
  rw[h0,h02]
  exact .slCap _ _ _ _ _ _ hG
theorem QBh {dst:Option Nat}{g:Option (Nat × Bool)}{los:List LO}{k:List It}{sz:Nat}{x:Operand}{lo hi:Option Operand}{id ver off n c:Nat}(a b:Nat) (hx:evA env x=.slc id ver sz off n c) (hab:a≤b) (hbc:b≤c) (hlo:QDz env lo 0 a) (hhi:QDz env hi n b)
  (h:Ax P R Λ (.ops los::k) (putE env dst (if a<c then .slc id ver sz (off+a) (b - a) (c - a)else .sl id ver sz (off+a) 0)) H) (hal:VL ver (H id)=true:=by rfl) (hg:gd g env=some true:=by rfl):Ax P R Λ (.ops (⟨dst,.slice sz x lo hi,g⟩::los)::k) env H:=
 Xl hg (fun cc hl G Z w act st he=>op_slC st he hl hx hal hab hbc hlo hhi) (fun v H' hq=>by obtain⟨rfl,rfl⟩:=hq;exact h)
theorem ax_dslC {dst:Option Nat}{g:Option (Nat × Bool)}{dos:List DO}{k:List It}{sz j:Nat}{acc:List Fp}{od:List Nat}{x:Operand}{lo hi:Option Operand}{id ver off n c:Nat}(a b:Nat) (hx:evA env x=.slc id ver sz off n c) (hab:a≤b) (hbc:b≤c) (hlo:QDz env lo 0 a) (hhi:QDz env hi n b)
  (h:Ax P R Λ (.dops dos (j+1) (XQ j [id] [] acc)::k) (putE env dst (if a<c then .slc id ver sz (off+a) (b - a) (c - a)else .sl id ver sz (off+a) 0)) H) (hal:VL ver (H id)=true:=by rfl) (hg:gd g env=some true:=by rfl) (hk:VQ acc od [id] []=true:=by rfl):Ax P R Λ (.dops (⟨dst,.slice sz x lo hi,g,od⟩::dos) j acc::k) env H:=by
 refine QAM (rd:=[id]) (wr:=[]) (H':=H) hg (fun cc hl=>⟨fun _ _=>rfl,fun env2 H2 h1 h2 _ G Z w act st he=> ?_⟩) hk h
 have e1:∀ y∈x::(lo.toList++hi.toList),evA env2 y=evA env y:=WP (fun t ht=>h1 t (ZW hl t (by simpa [LOp.opnds]using ht)))
 have:=op_slC (a:=a) (b:=b) st he hl (by rw[e1 x (by simp)];exact hx) (by rw[h2 id (by simp)];exact hal) hab hbc
  (by cases lo with
    | none=>exact hlo
    | some l=>obtain⟨q,h3⟩:=hlo;exact⟨q,by rw[e1 l (by simp)];exact h3⟩)
  (by cases hi with
    | none=>exact hhi
    | some l=>obtain⟨q,h3⟩:=hhi;exact⟨q,by rw[e1 l (by simp)];exact h3⟩)
 have e2:mix [] H H2=H2:=by funext i;simp [mix]
 rw[e2];exact this
def SlOf (a:AV) (id ver sz off n:Nat):Prop:=a=.sl id ver sz off n∨∃ c,a=.slc id ver sz off n c
theorem SlOf.rep {a:AV}{id ver sz off n:Nat}(h:SlOf a id ver sz off n){G:QM}{Z:Nat→Prop}{w:World}{v:Value}(hr:RepA G Z w a v):RepA G Z w (.sl id ver sz off n) v:=by
 rcases h with rfl|⟨c,rfl⟩
 ·exact hr
 ·exact hr.slc_sl
theorem QA8 {c:Oper}{ee sz bytes:Nat}{s x:Operand}(h:Xe P c.op=some (.append false ee sz bytes s x)):∃ cl ty tx e e',c.op=.call cl∧cl.callee=.builtin .append∧cl.args = #[s,x]∧cl.argTypes = #[ty,tx]∧elemOf? P ty=some e∧sizeOf? P e=some sz∧bytesOf? P e=some bytes∧P.underlying tx=some (.slice e')∧(Ql P e).isSome=true:=by
 cases ho:c.op<;>rw[ho]at h<;>simp only[Xe]at h<;>try (cases h;done)
 case call cl=>
  split at h
  case h_4=>
   rename_i hc
   split at h
   case h_2=>cases h
   rename_i y t0 ty tx ha hat
   split at h
   case h_2=>cases h
   rename_i e he
   split at h
   case h_2=>cases h
   rename_i sz2 by2 hs hb
   split at h
   case isFalse=>cases h
   rename_i hz
   split at h
   ·cases h
   ·split at h
    ·rename_i hx
     obtain⟨e',he'⟩:=Zd hx
     simp only[Option.some.injEq,LOp.append.injEq]at h
     obtain⟨_,rfl,rfl,rfl,rfl,rfl⟩:=h
     exact⟨cl,ty,tx,_,e',rfl,hc,arr2 ha,arr2 hat,he,hs,hb,he',hz.2.2⟩
    ·split at h<;>cases h
  all_goals repeat' (first|cases h;done|split at h)
 case binOp=>
  split at h
  ·rename_i hn
   obtain rfl:=Option.some.inj h
   obtain⟨_,_,⟨h1,_⟩|⟨h1,_⟩⟩:=Xb hn<;>cases h1
  ·split at h
   ·rename_i hn
    obtain rfl:=Option.some.inj h
    obtain⟨_,_,neg,h1,_⟩:=YW hn
    cases h1
   ·cases h
 case alloc=>obtain⟨_,_,h⟩:=Option.map_eq_some_iff.1 h;cases h
 case load=>obtain⟨_,_,h⟩:=Option.map_eq_some_iff.1 h;cases h
 case store=>obtain⟨_,_,h⟩:=Option.map_eq_some_iff.1 h;cases h
 case build=>
  split at h
  ·split at h
   ·obtain⟨_,_,h⟩:=Option.map_eq_some_iff.1 h;cases h
   ·cases h
  ·cases h
 case field=>
  split at h
  ·obtain⟨_,_,h⟩:=Option.map_eq_some_iff.1 h;cases h
  ·cases h
 case indexAddr=>
  split at h
  ·obtain⟨_,_,h⟩:=Option.map_eq_some_iff.1 h;cases h
  ·cases h
 all_goals
  repeat' (first|cases h;done|split at h)
theorem op_appC {G:QM}{Z:Nat→Prop}{w:World}{act:Act}(st:St P G H Z w) (he:EnvR G Z w env act.tmps){cc:Oper}{ee sz bytes:Nat}{s x:Operand}(hl:Xe P cc.op=some (.append false ee sz bytes s x)){id ver off n c off2 m:Nat}{cs:List AV}(hs:evA env s=.slc id ver sz off n c) (hx:SlOf (evA env x) id ver sz off2 m) (hc:cellsOf ver (H id)=some cs)
  (hroom:n+m≤c) (hin:(off2+m)*sz≤cs.length) (hin2:(off+n+m)*sz≤cs.length):OpTo P cc G H Z w act (fun v H'=>v=.slc id ver sz off (n+m) c∧H'=upd H id (ver,some (.cells (splice cs ((off+n)*sz) ((cs.drop (off2*sz)).take (m*sz)))))):=by
 obtain⟨cl,ty,tx,e,e',h1,h2,h3,h4,h5,h6,h7,h8,h9⟩:=QA8 hl
 have hu:=Qy h5
 unfold sizeOf? at h6
 cases hinf:P.info? e with
 | none=>rw[hinf]at h6;cases h6
 | some inf=>
 rw[hinf]at h6
 have hsz2:inf.size=sz:=by simpa using h6
 have hr:=he.eval s
 rw[hs]at hr
 have hrx:=hx.rep (he.eval x)
 obtain⟨loc,hG,hob,hH⟩:=st.cells hc
 obtain⟨us,hsrc,hul,hus⟩:=sl_src st hrx hc hin ⟨e',h8⟩
 obtain⟨g',o',rfl,hv,hnc,hcm,arr,et,fz,hh,hr2⟩:=hr.slc_ hG
 obtain⟨arr2,et2,hh2,hcc⟩:=hob
 rw[hh]at hh2
 simp only[Option.some.injEq,Obj.cells.injEq]at hh2
 obtain⟨rfl,rfl,rfl⟩:=hh2
 have hlen:us.length=m*sz:=by rw[hul,List.length_take,List.length_drop];rw[Nat.add_mul]at hin;omega
 have hspace:o'+off*sz+n*sz+us.length≤arr.size:=by
  have:(n+m)*sz≤c*sz:=Nat.mul_le_mul_right _ hroom
  rw[Nat.add_mul]at this
  rw[Nat.add_mul]at hr2
  omega
 have hcell:∀ j,j<us.length→∃ u,w.cell? ⟨g',o'+off*sz+n*sz+j,none⟩=some u:=fun j hj=>by
  rw[cell_of_row w g' _ arr et (0,0) hh]
  exact⟨_,Array.getElem?_eq_getElem (by omega)⟩
 have hrun:=run_append_room_src (P:=P) w ty tx cc.type e inf hu hinf g' (o'+off*sz) n c (act.eval x) m us (by rw[hsz2];exact hsrc) hroom
  (fun j hj=>by rw[hsz2];obtain⟨u,hu2⟩:=hcell j hj;rw[hu2];rfl) (fun j hj=>by simp [World.frozen?,hh])
 rw[hsz2,show o'+off*sz+n*sz=o'+(off+n)*sz by rw[Nat.add_mul];omega]at hrun
 obtain⟨s1,s2⟩:=st.write (off:=(off+n)*sz) hH hG hul (by rw[← hul,hlen,← Nat.add_mul];exact hin2) hus
 intro K X hK
 unfold Oper.wp
 have:(execOp act.eval cc).run P w=.ok (.value (.slice (some ⟨g',o'+off*sz,none⟩) (n+m) c)) (w.setCells g' (o'+(off+n)*sz) us):=by
  simp [execOp,h1,resolve,h2,h3,h4,invoke,builtin,hv,hrun]
 rw[this,Oper.upon_value]
 obtain⟨arr',k1,k2,k3,k4⟩:=Xa g' et (0,0) us (o'+(off+n)*sz) w arr hh
 exact hK _ _ _ G Z _ ⟨rfl,rfl⟩ s1 s2 (.slcLive _ _ _ _ _ _ _ _ hG hroom hcm ⟨arr',et,_,k1,by rw[k2];exact hr2⟩)
theorem ax_dappC {dst:Option Nat}{g:Option (Nat × Bool)}{dos:List DO}{k:List It}{ee sz bytes j:Nat}{acc:List Fp}{od:List Nat}{s x:Operand}{id ver off n c off2 m:Nat}{cs:List AV}(hs:evA env s=.slc id ver sz off n c) (hx:SlOf (evA env x) id ver sz off2 m) (hc:cellsOf ver (H id)=some cs)
  (hroom:n+m≤c) (hin:(off2+m)*sz≤cs.length) (hin2:(off+n+m)*sz≤cs.length)
  (h:Ax P R Λ (.dops dos (j+1) (XQ j [id] [id] acc)::k) (putE env dst (.slc id ver sz off (n+m) c)) (upd H id (ver,some (.cells (splice cs ((off+n)*sz) ((cs.drop (off2*sz)).take (m*sz))))))) (hg:gd g env=some true:=by rfl) (hk:VQ acc od [id] [id]=true:=by rfl):Ax P R Λ (.dops (⟨dst,.append false ee sz bytes s x,g,od⟩::dos) j acc::k) env H:=by
 refine QAM (rd:=[id]) (wr:=[id]) (H':=upd H id (ver,some (.cells (splice cs ((off+n)*sz) ((cs.drop (off2*sz)).take (m*sz)))))) hg (fun cc hl=>⟨fun i hi=>by rw[QL _ _ _ _ (by simpa using hi)],fun env2 H2 h1 h2 _ G Z w act st he=> ?_⟩) hk h
 have e1:∀ y∈[s,x],evA env2 y=evA env y:=WP (fun t ht=>h1 t (ZW hl t (by simpa [LOp.opnds]using ht)))
 have:=op_appC st he hl (by rw[e1 s (by simp)];exact hs) (by rw[e1 x (by simp)];exact hx) (by rw[h2 id (by simp)];exact hc) hroom hin hin2
 have e2:mix [id] (upd H id (ver,some (.cells (splice cs ((off+n)*sz) ((cs.drop (off2*sz)).take (m*sz)))))) H2=upd H2 id (ver,some (.cells (splice cs ((off+n)*sz) ((cs.drop (off2*sz)).take (m*sz))))):=by
  funext i
  simp only[mix,List.mem_singleton]
  by_cases e:i=id
  ·subst e;simp
  ·rw[if_neg e,QL _ _ _ _ e]
 rw[e2];exact this
theorem QA7 {c:Oper}{x lo hi mx:Operand}(h:Xe P c.op=some (.slice0 x lo hi mx)):∃ ty e sz lo',c.op=.slice ty x lo' (some hi) (some mx)∧elemOf? P ty=some e∧sizeOf? P e=some sz∧(lo'=some lo∨(lo'=none∧lo=.const (.int .i64 0))):=by
 cases ho:c.op<;>rw[ho]at h<;>simp only[Xe]at h<;>try (cases h;done)
 case slice ty x1 lo1 hi1 mx1=>
  split at h
  ·rename_i e he
   split at h
   ·cases h
   ·rename_i sz' _ _ _ hs
    simp only[Option.some.injEq,LOp.slice0.injEq]at h
    obtain⟨rfl,rfl,rfl,rfl⟩:=h
    exact⟨ty,e,sz',_,rfl,he,hs,.inl rfl⟩
   ·rename_i sz' _ _ hs
    simp only[Option.some.injEq,LOp.slice0.injEq]at h
    obtain⟨rfl,rfl,rfl,rfl⟩:=h
    exact⟨ty,e,sz',_,rfl,he,hs,.inr ⟨rfl,rfl⟩⟩
   all_goals cases h
  ·split at h<;>cases h
 case binOp=>
  split at h
  ·rename_i hn
   obtain rfl:=Option.some.inj h
   obtain⟨_,_,⟨h1,_⟩|⟨h1,_⟩⟩:=Xb hn<;>cases h1
  ·split at h
   ·rename_i hn
    obtain rfl:=Option.some.inj h
    obtain⟨_,_,neg,h1,_⟩:=YW hn
    cases h1
   ·cases h
 case alloc=>obtain⟨_,_,h⟩:=Option.map_eq_some_iff.1 h;cases h
 case load=>obtain⟨_,_,h⟩:=Option.map_eq_some_iff.1 h;cases h
 case store=>obtain⟨_,_,h⟩:=Option.map_eq_some_iff.1 h;cases h
 case build=>
  split at h
  ·split at h
   ·obtain⟨_,_,h⟩:=Option.map_eq_some_iff.1 h;cases h
   ·cases h
  ·cases h
 case field=>
  split at h
  ·obtain⟨_,_,h⟩:=Option.map_eq_some_iff.1 h;cases h
  ·cases h
 case indexAddr=>
  split at h
  ·obtain⟨_,_,h⟩:=Option.map_eq_some_iff.1 h;cases h
  ·cases h
 all_goals
  repeat' (first|cases h;done|split at h)
theorem Om {c:Oper}{ee sz bytes:Nat}{z:List FV}{s x:Operand}(h:Xe P c.op=some (.appendN ee sz bytes z s x)):∃ cl ty tx e kn,c.op=.call cl∧cl.callee=.builtin .append∧cl.args = #[s,x]∧cl.argTypes = #[ty,tx]∧elemOf? P ty=some e∧sizeOf? P e=some sz∧bytesOf? P e=some bytes∧P.underlying tx=some (.int kn)∧Ql P e=some z∧sz≠0∧bytes≠0:=by
 cases ho:c.op<;>rw[ho]at h<;>simp only[Xe]at h<;>try (cases h;done)
 case call cl=>
  split at h
  case h_4=>
   rename_i hc
   split at h
   case h_2=>cases h
   rename_i y t0 ty tx ha hat
   split at h
   case h_2=>cases h
   rename_i e he
   split at h
   case h_2=>cases h
   rename_i sz2 by2 hs hb
   split at h
   case isFalse=>cases h
   rename_i hz
   split at h
   ·cases h
   ·split at h
    ·cases h
    ·split at h
     case isFalse=>cases h
     rename_i hk
     obtain⟨k,hk⟩:=Option.isSome_iff_exists.1 hk
     obtain⟨zz,hzz⟩:=Option.isSome_iff_exists.1 hz.2.2
     simp only[Option.some.injEq,LOp.appendN.injEq]at h
     obtain⟨rfl,rfl,rfl,rfl,rfl,rfl⟩:=h
     exact⟨cl,ty,tx,_,k,rfl,hc,arr2 ha,arr2 hat,he,hs,hb,Uc hk,by rw[hzz];rfl,hz.1,hz.2.1⟩
  all_goals repeat' (first|cases h;done|split at h)
 case binOp=>
  split at h
  ·rename_i hn
   obtain rfl:=Option.some.inj h
   obtain⟨_,_,⟨h1,_⟩|⟨h1,_⟩⟩:=Xb hn<;>cases h1
  ·split at h
   ·rename_i hn
    obtain rfl:=Option.some.inj h
    obtain⟨_,_,neg,h1,_⟩:=YW hn
    cases h1
   ·cases h
 case alloc=>obtain⟨_,_,h⟩:=Option.map_eq_some_iff.1 h;cases h
 case load=>obtain⟨_,_,h⟩:=Option.map_eq_some_iff.1 h;cases h
 case store=>obtain⟨_,_,h⟩:=Option.map_eq_some_iff.1 h;cases h
 case build=>
  split at h
  ·split at h
   ·obtain⟨_,_,h⟩:=Option.map_eq_some_iff.1 h;cases h
   ·cases h
  ·cases h
 case field=>
  split at h
  ·obtain⟨_,_,h⟩:=Option.map_eq_some_iff.1 h;cases h
  ·cases h
 case indexAddr=>
  split at h
  ·obtain⟨_,_,h⟩:=Option.map_eq_some_iff.1 h;cases h
  ·cases h
 all_goals
  repeat' (first|cases h;done|split at h)
theorem op_slice3 {G:QM}{Z:Nat→Prop}{w:World}{act:Act}(st:St P G H Z w) (he:EnvR G Z w env act.tmps){cc:Oper}{x lo hi mx:Operand}(hl:Xe P cc.op=some (.slice0 x lo hi mx)){id ver sz off n a b m:Nat}(hx:SlOf (evA env x) id ver sz off n) (hal:VL ver (H id)=true)
  (h1:(evA env lo).toI=some (a:Int)) (h2:(evA env hi).toI=some (b:Int)) (h3:(evA env mx).toI=some (m:Int)) (hab:a≤b) (hbm:b≤m) (hmn:m≤n):OpTo P cc G H Z w act (fun v H'=>v=.any∧H'=H):=by
 obtain⟨ty,e,sz',lo',g1,g2,g3,g4⟩:=QA7 hl
 have hu:=Qy g2
 unfold sizeOf? at g3
 cases hinf:P.info? e with
 | none=>rw[hinf]at g3;cases g3
 | some inf=>
 obtain⟨loc,hG⟩:=st.alive hal
 have hr:=hx.rep (he.eval x)
 obtain⟨k1,e1⟩:=(he.eval lo).toI_ h1
 obtain⟨k2,e2⟩:=(he.eval hi).toI_ h2
 obtain⟨k3,e3⟩:=(he.eval mx).toI_ h3
 obtain⟨A,c,hv,hnc⟩:∃ A c,act.eval x=.slice A n c∧n≤c:=by
  rcases hr.sl_ hG with⟨rfl,A,hv⟩|⟨g,o,c,_,hv,k,_,_⟩
  ·exact⟨A,0,hv,Nat.le_refl _⟩
  ·exact⟨_,c,hv,k⟩
 have bnd:∀ q (i m:Nat) code,i≤m→(Instr.sliceBound (.int q i) m code).run P w=.ok i w:=fun q i m code k=>by
  simp [Instr.sliceBound,asIntOf,k]
 have hb:(Instr.sliceBounds true n c (lo'.map act.eval) (some (act.eval hi)) (some (act.eval mx))).run P w=.ok (a,b,m) w:=by
  rcases g4 with rfl|⟨rfl,rfl⟩
  ·simp [Instr.sliceBounds,e1,e2,e3,bnd k1 a b _ hab,bnd k2 b m _ hbm,bnd k3 m c _ (by omega)]
  ·obtain rfl:a=0:=by
    have:(AV.f (.int .i64 0)).toI=some (a:Int):=h1
    simp only[AV.toI,FV.toI,Option.some.injEq]at this
    omega
   simp [Instr.sliceBounds,e2,e3,bnd k2 b m _ hbm,bnd k3 m c _ (by omega)]
 have hrun:(execOp act.eval cc).run P w=.ok (.value (.slice (if m=a then A else A.map (·.add (a*inf.size))) (b - a) (m - a))) w:=by
  simp [execOp,g1,Instr.sliceAt,Instr.slice,run_underlying hu,hv,hb,sizeOf,typeInfo,hinf]
 intro K X hK
 unfold Oper.wp
 rw[hrun,Oper.upon_value]
 exact hK _ _ H G Z w ⟨rfl,rfl⟩ st (Step.refl _ _ _) (.any _)
theorem ax_slice3 {dst:Option Nat}{g:Option (Nat × Bool)}{los:List LO}{k:List It}{x lo hi mx:Operand}{id ver sz off n a b m:Nat}(hx:SlOf (evA env x) id ver sz off n) (h1:(evA env lo).toI=some (a:Int)) (h2:(evA env hi).toI=some (b:Int)) (h3:(evA env mx).toI=some (m:Int)) (hab:a≤b) (hbm:b≤m) (hmn:m≤n)
  (h:Ax P R Λ (.ops los::k) (putE env dst .any) H) (hal:VL ver (H id)=true:=by rfl) (hg:gd g env=some true:=by rfl):Ax P R Λ (.ops (⟨dst,.slice0 x lo hi mx,g⟩::los)::k) env H:=
 Xl hg (fun cc hl G Z w act st he=>op_slice3 st he hl hx hal h1 h2 h3 hab hbm hmn) (fun v H' hq=>by obtain⟨rfl,rfl⟩:=hq;exact h)
theorem op_appN {G:QM}{Z:Nat→Prop}{w:World}{act:Act}(st:St P G H Z w) (he:EnvR G Z w env act.tmps){cc:Oper}{ee sz bytes:Nat}{z:List FV}{s x:Operand}(hl:Xe P cc.op=some (.appendN ee sz bytes z s x)){id ver off n c k t vt:Nat}{q:IntKind}{cs:List AV}(hs:evA env s=.slc id ver sz off n c) (hx:evA env x=.f (.int q (k:Nat))) (hc:cellsOf ver (H id)=some cs)
  (hk:0<k) (hroom:c<n+k) (hin:(off+n)*sz≤cs.length) (hb:(n+k)*bytes≤140737488355328) (ht:H t=(vt,none)) :
  OpTo P cc G H Z w act (fun v H'=>v=.sl t (vt+1) sz 0 (n+k)∧H'=upd H t (vt+1,some (.cells ((cs.drop (off*sz)).take (n*sz)++Qd k z)))):=by
 obtain⟨cl,ty,tx,e,kn,h1,h2,h3,h4,h5,h6,h7,h8,h9,hpos,hbp⟩:=Om hl
 have hu:=Qy h5
 obtain⟨inf,zv,hinf,hzv,hzo,hzs,hzz⟩:=Ve h9
 have hsz:inf.size=sz:=by unfold sizeOf? at h6;rw[hinf]at h6;simpa using h6
 have hby:inf.bytes=bytes:=by unfold bytesOf? at h7;rw[hinf]at h7;simpa using h7
 have hr:=he.eval s
 rw[hs]at hr
 have hxv:=he.eval x
 rw[hx]at hxv
 have hxv2:=hxv.int_
 obtain⟨loc,hG,hob,hH⟩:=st.cells hc
 obtain⟨g',o',rfl,hv,hnc,hcm,arr,et,fz,hh,hr2⟩:=hr.slc_ hG
 obtain⟨arr2,et2,hh2,hcc⟩:=hob
 rw[hh]at hh2
 simp only[Option.some.injEq,Obj.cells.injEq]at hh2
 obtain⟨rfl,rfl,rfl⟩:=hh2
 obtain⟨os,q1,q2,q3,q4⟩:=(((Wnd.of_row hh hcc).drop (off*sz)).take (n*sz)).list
 have q1':os.length=n*sz:=by rw[q1,List.length_take,List.length_drop];rw[Nat.add_mul]at hin;omega
 have hml:=Nf hb hbp
 have h63:((n+k:Nat):Int)≤9223372036854775807:=by unfold maxLen at hml;omega
 have hfirst:(Builtin.firstCells inf.size n (.slice (some ⟨g',o'+off*sz,none⟩) n c)).run P w.drew=.ok os.toArray w.drew:=
  run_firstCells_some w.drew inf.size n _ n c os (by rw[hsz];omega) (fun j u hu=>by rw[Addr.add_mid];simpa using q2 j u hu)
 have hkb:k*inf.bytes≤281474976710656:=by
  rw[hby]
  have:k*bytes≤(n+k)*bytes:=Nat.mul_le_mul_right _ (by omega)
  omega
 have hrun:=Lib.run_append_grow_zeros (P:=P) w ty tx cc.type e inf zv q kn hu h8 hinf hzv (some ⟨g',o'+off*sz,none⟩) n c os hfirst k hk (by omega) hroom h63 hkb (growslice_fits hroom (by rw[hby];exact hb))
 have hge:=grownCap_ge w (n+k) c e
 have hle:=grownCap_le_maxLen w (n+k) c e hml
 obtain⟨gc,hgc⟩:∃ gc,grownCap w (n+k) c e=gc:=⟨_,rfl⟩
 rw[hgc]at hrun hge hle
 have hzm:Builtin.zeroCells zv.cells k=madeCells zv.cells (k*sz):=by
  unfold Builtin.zeroCells madeCells
  rw[show zv.cells.size=sz by omega]
 have hzc:∀ (j:Nat) (a:AV),(Qd k z)[j]? = some a→∃ u,(Builtin.zeroCells zv.cells k).toList[j]? = some u∧u.oneCell'=true∧RepA G Z w a u:=by
  intro j a ha
  rw[hzz]at ha
  obtain⟨u,g1,g2,g3⟩:=(ME (G:=G) (Z:=Z) (w:=w) (n:=k) (sz:=sz) hzo (by omega)).2 j a ha
  rw[Nat.zero_add]at g1
  exact⟨u,by rw[Array.getElem?_toList,hzm];exact g1,g2,g3⟩
 have hzlen:(Qd k z).length=k*sz:=by
  rw[hzz,Qd,List.length_map,Qn (sz:=sz) _ (fun y hy=>by rw[List.eq_of_mem_replicate hy,List.length_map,Array.length_toList];omega),List.length_replicate]
 have hzlen2:(Builtin.zeroCells zv.cells k).toList.length=k*sz:=by rw[Array.length_toList,size_zeroCells,show zv.cells.size=sz by omega]
 obtain⟨us,hus⟩:∃ us,(Builtin.zeroCells zv.cells k).toList=us:=⟨_,rfl⟩
 have hua:Builtin.zeroCells zv.cells k=us.toArray:=by rw[← hus]
 rw[hus]at hzc hzlen2
 rw[hua]at hrun
 have hcat:os.toArray++us.toArray=(os++us).toArray:=by simp
 rw[hcat]at hrun
 have holen:((cs.drop (off*sz)).take (n*sz)).length=n*sz:=by rw[← q1];exact q1'
 have hcells:CellsR (RepA G Z w) ((os++us).toArray++Builtin.zeroCells zv.cells (gc - (n+k))) 0 ((cs.drop (off*sz)).take (n*sz)++Qd k z):=by
  intro j a ha
  rw[Nat.zero_add]
  have key:∃ u,(os++us)[j]? = some u∧u.oneCell'=true∧RepA G Z w a u:=by
   rcases Nat.lt_or_ge j (n*sz)with hj|hj
   ·rw[List.getElem?_append_left (by omega)]at ha
    obtain⟨u,h1,h2⟩:=q4 j a ha
    exact⟨u,by rw[List.getElem?_append_left (by omega)];exact h1,h2⟩
   ·rw[List.getElem?_append_right (by omega)]at ha
    obtain⟨u,h1,h2⟩:=hzc _ a ha
    exact⟨u,by rw[List.getElem?_append_right (by omega),show j - os.length=j - ((cs.drop (off*sz)).take (n*sz)).length by omega];exact h1,h2⟩
  obtain⟨u,h1,h2⟩:=key
  refine⟨u,?_,h2⟩
  have hj:=(List.getElem?_eq_some_iff.1 h1).1
  rw[Array.getElem?_append_left (by simpa using hj)]
  simpa using h1
 obtain⟨s1,s2⟩:=st.newAt (id:=t) (ver':=vt+1) (by rw[ht];exact Nat.lt_succ_self _) (e:=e) hcells (QAr q3 (fun u hu=>by
   obtain⟨j,hj⟩:=List.getElem?_of_mem hu
   rw[← hus,Array.getElem?_toList]at hj
   exact Wj hzo j u hj) hzo)
 have hsize:((os++us).toArray++Builtin.zeroCells zv.cells (gc - (n+k))).size=gc*sz:=by
  rw[Array.size_append,size_zeroCells,hzs]
  simp only[List.size_toArray,List.length_append]
  rw[q1',hzlen2,hsz,← Nat.add_mul,← Nat.add_mul]
  congr 1;omega
 intro K X hK
 unfold Oper.wp
 have:(execOp act.eval cc).run P w=.ok (.value (.slice (some ⟨w.heap.size,0,none⟩) (n+k) gc)) (w.drew.alloc (.cells ((os++us).toArray++Builtin.zeroCells zv.cells (gc - (n+k))) e)):=by
  simp only[execOp,h1,resolve,h2,h3,h4,invoke,builtin]
  simp [hv,hxv2,hrun]
 rw[this,Oper.upon_value]
 refine hK _ _ _ _ Z _ ⟨rfl,rfl⟩ s1 s2 ?_
 have:=RepA.slLive (G:=upd G t (vt+1,some (some (w.heap.size,0)))) (Z:=Z) (w:=w.drew.alloc (.cells ((os++us).toArray++Builtin.zeroCells zv.cells (gc - (n+k))) e)) t (vt+1) sz 0 (n+k) w.heap.size 0 gc (by simp) hge hle
  ⟨_,e,(0,0),heap_alloc_new w.drew _,by rw[hsize];simp⟩
 simpa using this
theorem ax_appN {dst:Option Nat}{g:Option (Nat × Bool)}{los:List LO}{k:List It}{ee sz bytes:Nat}{z:List FV}{s x:Operand}{id ver off n c m:Nat}(t vt:Nat){q:IntKind}{cs:List AV}(hs:evA env s=.slc id ver sz off n c) (hx:evA env x=.f (.int q (m:Nat))) (hc:cellsOf ver (H id)=some cs)
  (hk:0<m) (hroom:c<n+m) (hin:(off+n)*sz≤cs.length) (hb:(n+m)*bytes≤140737488355328) (ht:H t=(vt,none))
  (h:Ax P R Λ (.ops los::k) (putE env dst (.sl t (vt+1) sz 0 (n+m))) (upd H t (vt+1,some (.cells ((cs.drop (off*sz)).take (n*sz)++Qd m z))))) (hg:gd g env=some true:=by rfl):Ax P R Λ (.ops (⟨dst,.appendN ee sz bytes z s x,g⟩::los)::k) env H:=
 Xl hg (fun cc hl G Z w act st he=>op_appN st he hl hs hx hc hk hroom hin hb ht) (fun v H' hq=>by obtain⟨rfl,rfl⟩:=hq;exact h)
theorem St.plainRow {G:QM}{Z:Nat→Prop}{w:World}(st:St P G H Z w){id ver sz off n:Nat}{v:Value}(hal:∃ cs,cellsOf ver (H id)=some cs) (hr:RepA G Z w (.sl id ver sz off n) v) (hn:0<n) :
  ∃ g o c arr et,v=.slice (some ⟨g,o+off*sz,none⟩) n c∧(G id).2=some (some (g,o))∧w.heap[g]? = some (.cells arr et (0,0))∧o+(off+c)*sz≤arr.size∧n≤c:=by
 obtain⟨cs,hc⟩:=hal
 obtain⟨loc,hG,hob,hH⟩:=st.cells hc
 rcases hr.sl_ hG with⟨h0,-⟩|⟨g,o,c,rfl,hv,h1,h2,arr,et,fz,hh,hroom⟩
 ·omega
 ·obtain⟨arr2,et2,hh2,hcc⟩:=hob
  rw[hh]at hh2
  simp only[Option.some.injEq,Obj.cells.injEq]at hh2
  obtain⟨rfl,rfl,rfl⟩:=hh2
  exact⟨g,o,c,arr,et,hv,by rw[hG],hh,by omega,h1⟩
theorem op_apart {fid:FuncId}{fn:Func}{tS tR e:TypeId}(hf:P.funcs[fid]? = some fn) (hname:(fn.name == "runtime.NumGoroutine")=false) (hb:fn.body.isNone=true) (hn:Extern.findNext fn=none) (hfd:Extern.find fn=some (Extern.SlicesOverlaps.overlaps #[tS,tS] #[tR])) (ht:P.underlying tS=some (.slice e)){sz':Nat}(hz:sizeOf? P e=some sz')
  {G:QM}{Z:Nat→Prop}{w:World}{act:Act}(st:St P G H Z w) (he:EnvR G Z w env act.tmps){cc:Oper}{f x y:Operand}(hl:Xe P cc.op=some (.call f [x,y])) (hfn:evA env f=.f (.fn (.func fid))){id ver sz off n id2 ver2 sz2 off2 n2:Nat}(hx:SlOf (evA env x) id ver sz off n) (hy:SlOf (evA env y) id2 ver2 sz2 off2 n2)
  (h1:∃ cs,cellsOf ver (H id)=some cs) (h2:∃ cs,cellsOf ver2 (H id2)=some cs) (hne:id≠id2) (hn1:0<n) (hn2:0<n2) (hs2:0<sz2):OpTo P cc G H Z w act (fun v H'=>v=.f (.bool false)∧H'=H):=by
 obtain⟨cl,k1,k2,k3⟩:=Wx hl
 obtain⟨g1,o1,c1,arr1,et1,e1,q1,p1,r1,m1⟩:=st.plainRow h1 (hx.rep (he.eval x)) hn1
 obtain⟨g2,o2,c2,arr2,et2,e2,q2,p2,r2,m2⟩:=st.plainRow h2 (hy.rep (he.eval y)) hn2
 have hgg:g1≠g2:=fun e=>hne (st.inj id id2 g1 o1 o2 q1 (by rw[e];exact q2))
 have hfv:act.eval f=.func (.func fid) #[] #[]:=by
  have:=he.eval f
  rw[hfn]at this
  exact this.fn_
 have hpos:arr2.size≠0:=by
  have:1*1≤(off2+c2)*sz2:=Nat.mul_le_mul (by omega) (by omega)
  omega
 have hsz:∀ w,(Go.sizeOf e).run P w=.ok sz' w:=fun w=>by
  unfold sizeOf? at hz
  cases hinf:P.info? e with
  | none=>rw[hinf]at hz;cases hz
  | some inf=>
   rw[hinf]at hz
   have:inf.size=sz':=by simpa using hz
   simp [sizeOf,typeInfo,hinf,this]
 have hargs:cl.args = #[x,y]:=(Array.toList_inj.1 k3)
 have hrun:(callFunc fid #[act.eval x,act.eval y]).run P w=.ok (.value (.bool false)) w:=by
  rw[e1,e2,run_callFunc_extern hf hname hb hn hfd,
   Lib.run_overlaps_apart w tS tR e ht sz' hsz ⟨g1,o1+off*sz,none⟩ ⟨g2,o2+off2*sz2,none⟩ n c1 n2 c2 hgg et1 et2 arr1.size arr2.size (by simp [World.shape?,p1]) (by simp [World.shape?,p2]) hpos (by simp [World.frozen?,p1]) (by simp [World.frozen?,p1])]
  rfl
 intro K X hK
 unfold Oper.wp
 have e0:(execOp act.eval cc).run P w=(callFunc fid (cl.args.map act.eval)).run P w:=by
  simp [execOp,k1,resolve,k2,hfv,Deferred.ofValue,invoke]
 have:(execOp act.eval cc).run P w=.ok (.value (.bool false)) w:=by
  rw[e0,hargs];simpa using hrun
 rw[this,Oper.upon_value]
 exact hK _ _ H G Z w ⟨rfl,rfl⟩ st (Step.refl _ _ _) (.f (.bool _))
theorem QDE {fid:FuncId}{fn:Func}{tS tR e:TypeId}(hf:P.funcs[fid]? = some fn) (hname:(fn.name == "runtime.NumGoroutine")=false) (hb:fn.body.isNone=true) (hn:Extern.findNext fn=none) (hfd:Extern.find fn=some (Extern.SlicesOverlaps.overlaps #[tS,tS] #[tR])) (ht:P.underlying tS=some (.slice e)){sz':Nat}(hz:sizeOf? P e=some sz')
  {dst:Option Nat}{g:Option (Nat × Bool)}{los:List LO}{k:List It}{f x y:Operand}{id ver sz off n id2 ver2 sz2 off2 n2:Nat}(hx:SlOf (evA env x) id ver sz off n) (hy:SlOf (evA env y) id2 ver2 sz2 off2 n2) (hne:id≠id2) (hn1:0<n) (hn2:0<n2) (hs2:0<sz2)
  (h:Ax P R Λ (.ops los::k) (putE env dst (.f (.bool false))) H) (hfn:evA env f=.f (.fn (.func fid)):=by rfl) (h1:∃ cs,cellsOf ver (H id)=some cs:=by exact⟨_,rfl⟩) (h2:∃ cs,cellsOf ver2 (H id2)=some cs:=by exact⟨_,rfl⟩) (hg:gd g env=some true:=by rfl):Ax P R Λ (.ops (⟨dst,.call f [x,y],g⟩::los)::k) env H:=
 Xl hg (fun cc hl G Z w act st he=>op_apart hf hname hb hn hfd ht hz st he hl hfn hx hy h1 h2 hne hn1 hn2 hs2) (fun v H' hq=>by obtain⟨rfl,rfl⟩:=hq;exact h)
end
end Go.Proofs.YtjfchihkhpinmaaGreatDoor
