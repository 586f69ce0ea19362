/-
  A call in a drawn region that shares the five high numbers. No statement of the seat is proved here; no conditions.
-/
import Derived.Test.YtjfchihkhpinmaaGreatDoorHi5
import Derived.Test.YtjfchihkhpinmaaGreatDoorDvP
namespace Go.Proofs.YtjfchihkhpinmaaGreatDoor
open Go.RowKit
set_option linter.unusedVariables false
set_option linter.unusedSimpArgs false

def W5:List Nat:=[100001,100002,100101,100102,100103]
theorem QCm {id:Nat} : id∈W5↔isHi id=true:=by
 simp only[W5,isHi,List.mem_cons,List.not_mem_nil,or_false,decide_eq_true_eq]
def Ud (hl:List (Nat × Nat × AObj)):Bool:=hl.all fun p=>match p.2.2 with
 | .cells cs=>cs.all AV.hi5
 | .ty cs _=>cs.all AV.hi5
 | _=>true
theorem hiC5_at {H:Heap}{hl:List (Nat × Nat × AObj)}(h:∀ id,isHi id=true→H id=VP id hl) (ho:Ud hl=true):HiC5 H:=fun id hid cs hc=>by
 rw[h id hid]at hc
 rcases hc with hc|⟨t,hc⟩
 all_goals
  obtain⟨p,hp,_,h2⟩:=Nb hc
  have:=List.all_eq_true.1 ho p hp
  rw[h2]at this
  exact this
section
variable {P:Program}{R:Env→Heap→Prop}{Λ : Lams}{k:List It}{env:Env}{H:Heap}{d j:Nat}{f:Operand}{args:List Operand}{g:Option (Nat × Bool)}{dos:List DO}{acc:List Fp}{od:List Nat}{fid:FuncId}{args':List AV}
theorem callDV5 {hl hl2:List (Nat × Nat × AObj)}{r0:AV}(hF:FHi P fid args' hl (fun r hl'=>r=r0∧hl'=hl2)) (hg:gd g env=some true) (hv:∀ (H:Heap) (Q:AV→Heap→Prop),ACall P fid args' H Q→ACallV P (evA env f) (args.map (evA env)) H Q) (h1:H 100001=VP 100001 hl) (h2:H 100002=VP 100002 hl) (h3:H 100101=VP 100101 hl) (h4:H 100102=VP 100102 hl) (h5:H 100103=VP 100103 hl)
  (hk1:hl.all (fun p=>isHi p.1)=true) (hk2:hl2.all (fun p=>isHi p.1)=true) (hr:r0.hi5=true) (ho:Ud hl=true) (ho2:Ud hl2=true) (hp:args'.all AV.hi5=true) (hk:VQ acc od [] W5=true)
  (h:srun P R 300 Λ (.dops dos (j+1) (XQ j [] W5 acc)::k) (putE env (some d) r0) (Od (mkH hl2) H)):Ax P R Λ (.dops (⟨some d,.call f args,g,od⟩::dos) j acc::k) env H:=by
 have hH:∀ id,isHi id=true→H id=VP id hl:=fun id hid=>by
  have:id=100001∨id=100002∨id=100101∨id=100102∨id=100103:=by simpa [isHi]using hid
  rcases this with rfl|rfl|rfl|rfl|rfl<;>assumption
 refine WY (f:=f) (args:=args) (rd:=[]) (wr:=W5) (v:=r0) (H':=Od (mkH hl2) H) rfl hg (fun id hid=>if_pos (by have:=mt QCm.2 hid;simpa using this)) (fun H2 _ hw=> ?_) hk (QP 300 _ _ _ _ h)
 refine hv _ _ ?_
 have hH2:∀ id,isHi id=true→H2 id=VP id hl:=fun id hid=>(hw id (QCm.2 hid)).trans (hH id hid)
 have e:hiP5 H2=mkH hl:=by
  funext id
  show(if isHi id=false then(0,none)else H2 id)=VP id hl
  by_cases e:isHi id=false
  ·rw[if_pos e,Oo hk1 e]
  ·rw[if_neg e];exact hH2 id (QS e)
 have at2:∀ {H':Heap},hiP H'=mkH hl2→∀ id,isHi id=true→H' id=VP id hl2:=fun hh id hid=>Ov hh (QT hid)
 refine ACall.mono (call_hi5 hF e (fun r H' ⟨hl',⟨q1,q2⟩,q3⟩=>by subst q1 q2;exact⟨hr,hiC5_at (at2 q3) ho2⟩) (hiC5_at hH2 ho) hp) fun r H'' ⟨H',⟨hl',⟨q1,q2⟩,q3⟩,q4⟩=> ?_
 subst q1 q2 q4
 refine⟨rfl,?_⟩
 funext id
 unfold mix
 by_cases e:isHi id=true
 ·rw[if_pos (QCm.2 e)]
  show(if isHi id=false then H2 id else H' id)=if isHi id=false then H id else mkH hl' id
  rw[if_neg (Qt e),if_neg (Qt e),at2 q3 id e];rfl
 ·rw[if_neg (fun hh=>e (QCm.1 hh))]
  exact if_pos (by simpa using e)
theorem callD5 {hl hl2:List (Nat × Nat × AObj)}{r0:AV}(hF:FHi P fid args' hl (fun r hl'=>r=r0∧hl'=hl2)) (hg:gd g env=some true) (hfn:evA env f=.f (.fn (.func fid))) (ha:args.map (evA env)=args') (h1:H 100001=VP 100001 hl) (h2:H 100002=VP 100002 hl) (h3:H 100101=VP 100101 hl) (h4:H 100102=VP 100102 hl) (h5:H 100103=VP 100103 hl)
  (hk1:hl.all (fun p=>isHi p.1)=true) (hk2:hl2.all (fun p=>isHi p.1)=true) (hr:r0.hi5=true) (ho:Ud hl=true) (ho2:Ud hl2=true) (hp:args'.all AV.hi5=true) (hk:VQ acc od [] W5=true)
  (h:srun P R 300 Λ (.dops dos (j+1) (XQ j [] W5 acc)::k) (putE env (some d) r0) (Od (mkH hl2) H)):Ax P R Λ (.dops (⟨some d,.call f args,g,od⟩::dos) j acc::k) env H:=
 callDV5 hF hg (fun H Q h=>by rw[hfn,ha];exact h) h1 h2 h3 h4 h5 hk1 hk2 hr ho ho2 hp hk h
end
theorem hi5_fs (l:List FV):(l.map AV.f).all AV.hi5=true:=List.all_eq_true.2 fun a ha=>by obtain⟨x,_,rfl⟩:=List.mem_map.1 ha;rfl
end Go.Proofs.YtjfchihkhpinmaaGreatDoor
namespace Go.Proofs.YtjfchihkhpinmaaGreatDoor
open Go.RowKit Go.Shelf
set_option linter.unusedVariables false
set_option linter.unusedSimpArgs false
set_option maxRecDepth 100000

theorem hi5_rowA {a:Nat→AV}{t:ByteArray}(h:∀ n,(a n).hi5=true) (P:List Pt):(rowA a t P).all AV.hi5=true:=List.all_eq_true.2 fun x hx=>by
 obtain⟨p,_,hp⟩:=List.mem_flatMap.1 hx
 unfold fPtA at hp
 simp only[List.mem_cons,List.not_mem_nil,or_false]at hp
 rcases hp with rfl|rfl|rfl
 ·rfl
 ·rfl
 ·split
  ·exact h _
  ·rfl
theorem hi5_aY {z:Bool}{v:Nat}(n:Nat):(aY z v n).hi5=true:=by cases z<;>rfl
theorem hi5_R {D:List Ob}{P:List Pt}{t:ByteArray}{z:Bool}{v1 v2 v3 v4:Nat}{zs:List FV} : Ud (hiR D P t z v1 v2 v3 v4 zs)=true:=by
 unfold Ud hiR
 simp only[List.all_cons,List.all_nil,Bool.and_true,Bool.and_eq_true]
 refine⟨?_,hi5_fs _,hi5_rowA hi5_aY P,hi5_fs _⟩
 rw[List.all_append,hi5_fs];rfl
def sZs (t:ByteArray) (b:List UInt8) (most:Nat) (sent:Int):List FV:=[.str t,frB b,.int .i64 most,.int .i64 sent]
def SQ (t:ByteArray) (b:List UInt8) (most:Nat) (v1:Nat) (R:(Bool × Int) × Rc × Int) (r:AV) (hl:List (Nat × Nat × AObj)):Prop:=
 ∃ w2 w3 w4,r=.tup [.f (.bool R.1.1),.f (.int .i64 R.1.2)]∧hl=hiR R.2.1.1 R.2.1.2 t false v1 w2 w3 w4 (sZs t b most R.2.2)
structure OnAt (t:ByteArray) (b:List UInt8) (most:Nat) (B:Int) (R:(Bool × Int) × Rc × Int) (k:Nat) (left:Int) (m:Mg) (r:Rc) (sent:Int):Prop where
 eq:YE t b most k left m r sent=R
 ok:SOk t b most r m
 me:meas b m<k
 kb:k≤100002
 lo:(k:Int) - 200004≤left∧left≤1000000
 se:0≤sent∧sent+(k:Int)*65536≤B
theorem s_shape {t:ByteArray}{b:List UInt8}{most:Nat}{r:Rc}{m:Mg}(h:SOk t b most r m) (hm:most≤65536):∃ mk fr sz bs,m=(mk,t,fr,sz,bs)∧bs.length≤65536:=by
 rcases h.at_ with rfl|⟨f,rfl,_,_⟩
 ·exact⟨_,_,_,_,rfl,by simp⟩
 ·exact⟨_,_,_,_,rfl,by rw[List.length_take];omega⟩
theorem sq_end {H:Heap}{t:ByteArray}{b:List UInt8}{most v1 w2 w3 w4:Nat}{R:(Bool × Int) × Rc × Int}{E:List Ob}{Q:List Pt}{se:Int}{bo:Bool}{fa:Int}(hR:R=((bo,fa),(E,Q),se)) (hs:Small H) (h1:H 100001=VP 100001 (hiR E Q t false v1 w2 w3 w4 (sZs t b most se))) (h2:H 100002=VP 100002 (hiR E Q t false v1 w2 w3 w4 (sZs t b most se))) (h3:H 100101=VP 100101 (hiR E Q t false v1 w2 w3 w4 (sZs t b most se))) (h4:H 100102=VP 100102 (hiR E Q t false v1 w2 w3 w4 (sZs t b most se))) (h5:H 100103=VP 100103 (hiR E Q t false v1 w2 w3 w4 (sZs t b most se))):HiQ (SQ t b most v1 R) (.tup [.f (.bool bo),.f (.int .i64 fa)]) H:=by
 subst hR
 exact⟨hiR E Q t false v1 w2 w3 w4 (sZs t b most se),⟨w2,w3,w4,rfl,rfl⟩,Jx hs rfl h1 h2 h3 h4 h5⟩
set_option maxHeartbeats 8000000 in
theorem once_hi (D:List Ob) (P:List Pt) (t:ByteArray) (b:List UInt8) (most:Nat) (left sent:Int) (v1 v2 v3 v4:Nat) (hok:ROk (D,P)) (hd:XZ t=true) (hb:b.length≤100000) (hm:1≤most∧most≤65536) (hl : -1≤left∧left≤1000000) (hs:0≤sent∧sent≤1000000000000000) :
  FHi Tryz.prog 25 [.ptr 100001 v1 0,.f (.int .i64 left)] (hiR D P t false v1 v2 v3 v4 (sZs t b most sent)) (SQ t b most v1 (YE t b most (b.length+2) left (1,t,0,b.length,[]) (D,P) sent)):=by
 obtain⟨R,hR⟩:∃ R,YE t b most (b.length+2) left (1,t,0,b.length,[]) (D,P) sent=R:=⟨_,rfl⟩
 obtain⟨B,hB⟩:∃ B:Int,B=sent+((b.length+2:Nat):Int)*65536:=⟨_,rfl⟩
 have hBb:B≤2000000000000000:=by omega
 have hinit:OnAt t b most B R (b.length+2) left (1,t,0,b.length,[]) (D,P) sent:=⟨hR,⟨hok,.inl rfl⟩,by unfold meas;rw[if_pos rfl];omega,by omega,by omega,by omega⟩
 rw[hR]
 refine FCall.of_ax Jv ?_
 dsimp only[jm,ji,jf,jl,jL,jn,je,jx,jT,jC,jB,jq,jt,ju,jA,km,kf,kl,kn,kx,Yq,hiR,sZs,List.map]
 refine zrs ?_
 have hblen:(b.map encU).length=b.length:=List.length_map _
 replace hinit:=hide hinit
 repeat'(first|(simp -implicitDefEqProofs only[*,List.cons_append,List.nil_append,frB,List.length_map,zr,seval,reduceIte,reduceCtorEq])|(apply zk<;>intro hc)|(refine zp ?_)|(refine zd ?_)|fail)
 refine QK (S:=Nat × Int × Mg × Rc × Int × Nat × Nat × Nat) 64 [0,6] [] (fun s=>[(1,.f (.int .i64 s.2.1))]) (fun s=>[(6,1,AObj.cells ((fMg s.2.2.1).map .f)),(100001,v1,AObj.cells [.sl 100002 s.2.2.2.2.2.1 2 0 s.2.2.2.1.1.length,.sl 100101 s.2.2.2.2.2.2.1 3 0 s.2.2.2.1.2.length,.f (.str t),.f (.fr 1 (b.map encU)),.f (.int .i64 most),.f (.int .i64 s.2.2.2.2.1)]),(100002,s.2.2.2.2.2.1,AObj.cells ((rowF fOb s.2.2.2.1.1).map .f)),(100101,s.2.2.2.2.2.2.1,AObj.cells (rowA (aY false s.2.2.2.2.2.2.2) t s.2.2.2.1.2)),(100102,s.2.2.2.2.2.2.2,AObj.cells (frY (yOf t s.2.2.2.1.2)))]) (fun s=>OnAt t b most B R s.1 s.2.1 s.2.2.1 s.2.2.2.1 s.2.2.2.2.1) (fun s=>s.1) ((b.length+2,left,(1,t,0,(b.length:Int),[]),(D,P),sent,v2,v3,v4)) [] ?_ ?_ fun s hs=> ?_
 ·exact hinit.out
 ·refine wk_i ?_ ?_<;>simp only[zw,seval,reduceIte,reduceCtorEq]
  refine⟨⟨by rw[so_ff];exact .inl rfl,by rw[so_ff];exact .inl rfl,by rw[so_ff];exact .inl rfl,by rw[so_ff];exact .inl rfl,by show SlotOk _ _ [] (.f .nil) (.f (.fr 1 []));rw[so_ff];exact .inr ⟨rfl,1,rfl⟩,rfl⟩,ZP (fun n=>by show SlotOk _ _ [] (.sl 100102 v4 1 0 n) (.sl 100102 v4 1 0 n);rw[so_ss];exact⟨rfl,rfl,rfl,rfl,rfl,rfl,by simp,rfl,rfl⟩) P,Wd⟩
 obtain⟨k,lf,m,⟨E,Q⟩,se,w2,w3,w4⟩:=s
 obtain⟨heq,hsok,hme,hkb,hlo,hse⟩:=hs
 dsimp only at heq hsok hme hkb hlo hse ⊢
 refine zrs ?_
 clear hinit hR hB hok
 obtain⟨k,rfl⟩:∃ k',k=k'+1:=⟨k - 1,by omega⟩
 have hstep:=fun h0 h3=>s_step hsok hd hb hm h0 h3
 obtain⟨mk,fr,sz,bs,rfl,hbs⟩:=s_shape hsok hm.2
 have hw1:IntKind.i64.wrap (se+(bs.length:Int))=se+(bs.length:Int):=by rw[QR]<;>omega
 have hw2:IntKind.i64.wrap (lf - 1)=lf - 1:=by rw[QR]<;>omega
 have ht:=take_c E Q (mk,t,fr,sz,bs) false v1 w2 w3 w4 (sZs t b most (se+bs.length)) hsok.ok (fun h=>by cases h) (by dsimp only;omega)
 unfold YE at heq
 dsimp only at heq ht hstep hse
 dsimp only[fMg,List.map,frB]
 generalize hV:VC E Q (mk,t,fr,sz,bs)=V at*
 replace hsok:=hide hsok
 replace hstep:=hide hstep
 by_cases hl0:lf=0
 ·rw[if_pos hl0]at heq
  have d1:=dcT hl0
  replace hl0:=hide hl0
  repeat'(first|(simp -implicitDefEqProofs only[*,List.length_map,zr,seval,reduceIte,reduceCtorEq])|(apply zk<;>intro hc)|(refine zp ?_)|(refine zd ?_)|fail)
  exact sq_end heq.symm (QC rfl (QG rfl)) rfl rfl rfl rfl rfl
 rw[if_neg hl0]at heq
 have d1:=dcF hl0
 replace hl0:=hide hl0
 repeat'(first|(simp -implicitDefEqProofs only[*,List.length_map,zr,seval,reduceIte,reduceCtorEq])|(apply zk<;>intro hc)|(refine zp ?_)|(refine zd ?_)|fail)
 refine callD5 (r0:= .tup [.agg ((fAn V.2.2).map .f),.f (.int .i64 V.1)]) (hl2:=hiR V.2.1.1 V.2.1.2 t false v1 (w2+3) (w3+3) (w4+3) (sZs t b most (se+bs.length))) ht rfl rfl rfl rfl rfl rfl rfl rfl rfl rfl rfl hi5_R hi5_R rfl rfl ?_
 obtain⟨q,⟨E2,Q2⟩,a1,a2,a3,a4,a5⟩:=V
 dsimp only at heq
 dsimp only[hiR,sZs,fAn,List.map,List.cons_append,List.nil_append,frB]
 have i2:isHi 100002=true:=rfl
 have i3:isHi 100101=true:=rfl
 have i4:isHi 100102=true:=rfl
 have i6:isHi 6=false:=rfl
 have i7:isHi 7=false:=rfl
 have i1:isHi 100001=true:=rfl
 clear ht
 by_cases hq:q=0
 case neg=>
  rw[if_pos (.inl hq)]at heq
  have d2:=dcF hq
  replace hq:=hide hq
  repeat'(first|(simp -implicitDefEqProofs only[*,Ur,QE,W5,zr,seval,reduceIte,reduceCtorEq])|(apply zk<;>intro hc)|(refine zp ?_)|(refine zd ?_)|fail)
  exact sq_end heq.symm (QC rfl (QC rfl (We (QC rfl (QG rfl)) (QG rfl)))) rfl rfl rfl rfl rfl
 have d2:=dcT hq
 by_cases h3:a1=3
 case neg=>
  rw[if_pos (.inr h3)]at heq
  have d3:=dcF h3
  replace h3:=hide h3
  subst hq
  repeat'(first|(simp -implicitDefEqProofs only[*,Ur,QE,W5,zr,seval,reduceIte,reduceCtorEq])|(apply zk<;>intro hc)|(refine zp ?_)|(refine zd ?_)|fail)
  exact sq_end heq.symm (QC rfl (QC rfl (We (QC rfl (QG rfl)) (QG rfl)))) rfl rfl rfl rfl rfl
 rw[if_neg (by intro h;rcases h with h|h;exact h hq;exact h h3)]at heq
 obtain⟨n,k1,k2,k3,k4⟩:=hstep.out hq h3
 subst hq h3
 dsimp only at k1 k3
 subst k1
 rw[Int.toNat_natCast]at heq
 have kd:=QDj t b n most (by omega) hm.2 hb
 dsimp only[fMg,dMsg,List.map,frB]at kd
 repeat'(first|(simp -implicitDefEqProofs only[*,Ur,QE,W5,zr,seval,reduceIte,reduceCtorEq])|(apply zk<;>intro hc)|(refine zp ?_)|(refine zd ?_)|(refine cP (kd) ?_)|(refine cD (kd) ?_)|(refine cF (kd) ?_)|fail)
 have hme2:meas b (dMsg t b n most)=b.length - n:=by
  unfold meas dMsg
  rw[if_neg (show(2:Int)≠1 by decide)]
  show b.length - ((n:Int)).toNat=_
  rw[Int.toNat_natCast]
 refine⟨(k,lf - 1,dMsg t b n most,(E2,Q2),se+bs.length,w2+3,w3+3,w4+3),⟨heq,s_next k2 k3,by dsimp only;omega,by dsimp only;omega,by dsimp only;have:=hl0.out;omega,by dsimp only;omega⟩,Nat.lt_succ_self k,?_⟩
 dsimp only[dMsg,fMg,List.map]
 refine wk_i (h2:=QC rfl (QC rfl (QC rfl (We (QC rfl (QG rfl)) (QG rfl))))) ?_ ?_<;>simp only[Ur,i1,i2,i3,i4,i6,i7,zw,seval,reduceIte,reduceCtorEq]
 exact⟨ZP (fun n=>by show SlotOk _ _ [] (.sl 100102 (w4+3) 1 0 n) (.sl 100102 (w4+3) 1 0 n);rw[so_ss];exact⟨rfl,rfl,rfl,rfl,rfl,rfl,by simp,rfl,rfl⟩) Q2,Wd⟩
end Go.Proofs.YtjfchihkhpinmaaGreatDoor
namespace Go.Proofs.YtjfchihkhpinmaaGreatDoor
open Go.RowKit Go.Shelf
set_option linter.unusedVariables false
set_option linter.unusedSimpArgs false
set_option maxRecDepth 100000

def encI (n:Int):List FV:=[.int .i64 n]
theorem ixf_ints (l:List Int) (fn:FuncId) (p:Int→Bool) (hl:l.length≤1000000) (hp:∀ x∈l,FRet Tryz.prog fn [.f (.int .i64 x)] [.c (.v (.bool (p x)))]) :
  FRet Tryz.prog 47 [.f (.fr 1 (l.map fun x=>[.int .i64 x])),.f (.fn (.func fn))] [.c (.v (.int .i64 (ixV p l)))]:=by
 refine FCall.of_ax YS ?_
 dsimp only[jm,ji,jf,jl,jL,jn,je,jx,jT,jC,jB,jq,jt,ju,jA,km,kf,kl,kn,kx,XC]
 refine zrs ?_
 repeat'(first|(simp -implicitDefEqProofs only[*,zr,seval,reduceIte,reduceCtorEq])|(apply zk<;>intro hc)|(refine zp ?_)|(refine zd ?_)|fail)
 refine QK (S:=Nat) 19 [0,1,7] [] (fun s=>[(8,.f (.int .i64 s))]) (fun s=>[]) (fun s=>s≤l.length∧∀ k x,k<s→l[k]? = some x→p x=false) (fun s=>l.length - s) (0) [] ?_ ?_ fun s hs=> ?_
 ·exact⟨Nat.zero_le _,fun k x h=>absurd h (by omega)⟩
 ·refine wk_i ?_ ?_<;>simp only[zw,seval,reduceIte,reduceCtorEq]
 obtain⟨hi,hall⟩:=hs
 refine zrs ?_
 have hA:=hide hall
 clear hall
 rcases Nat.lt_or_ge s l.length with hlt|hge
 ·obtain⟨x,hx⟩:=QH hlt
  have h4:=XU hlt (by omega)
  have h2:=lt_t hlt
  have hm:=List.mem_of_getElem? hx
  cases hpx:p x
  ·repeat'(first|(simp -implicitDefEqProofs only[*,List.getElem?_map,Option.map_some,zr,seval,reduceIte,reduceCtorEq])|(apply zk<;>intro hc)|(refine zp ?_)|(refine zd ?_)|(refine cP (hp x hm) ?_)|(refine cD (hp x hm) ?_)|(refine cF (hp x hm) ?_)|(refine cO (hp x hm) ?_)|fail)
   refine⟨s+1,⟨hlt,fun k y hk hy=> ?_⟩,by omega,?_⟩
   ·rcases Nat.lt_succ_iff_lt_or_eq.1 hk with h1|rfl
    ·exact hA.out k y h1 hy
    ·rw[hx]at hy;obtain rfl:=Option.some.inj hy;exact hpx
   ·refine wk_i ?_ ?_<;>simp only[zw,seval,reduceIte,reduceCtorEq]
  ·have he:=ix_hit hA.out hx hpx
   repeat'(first|(simp -implicitDefEqProofs only[*,List.getElem?_map,Option.map_some,zr,seval,reduceIte,reduceCtorEq])|(apply zk<;>intro hc)|(refine zp ?_)|(refine zd ?_)|(refine cP (hp x hm) ?_)|(refine cD (hp x hm) ?_)|(refine cF (hp x hm) ?_)|(refine cO (hp x hm) ?_)|fail)
   exact Xp rfl
 ·obtain rfl:s=l.length:=by omega
  have h2:=lt_f hge
  have he:=ix_none hA.out
  repeat'(first|(simp -implicitDefEqProofs only[*,zr,seval,reduceIte,reduceCtorEq])|(apply zk<;>intro hc)|(refine zp ?_)|(refine zd ?_)|fail)
  exact Xp rfl
theorem cf_ints (l:List Int) (fn:FuncId) (p:Int→Bool) (hl:l.length≤1000000) (hp:∀ x∈l,FRet Tryz.prog fn [.f (.int .i64 x)] [.c (.v (.bool (p x)))]) :
  FRet Tryz.prog 21 [.f (.fr 1 (l.map fun x=>[.int .i64 x])),.f (.fn (.func fn))] [.c (.v (.bool (l.any p)))]:=by
 have hI:=ixf_ints l fn p hl hp
 have he:=ix_any p l
 refine FCall.of_ax Xx ?_
 dsimp only[jm,ji,jf,jl,jL,jn,je,jx,jT,jC,jB,jq,jt,ju,jA,km,kf,kl,kn,kx,Vl]
 refine zrs ?_
 replace hp:=hide hp
 generalize ixV p l=i at*
 generalize l.any p=q at*
 repeat'(first|(simp -implicitDefEqProofs only[*,zr,seval,reduceIte,reduceCtorEq])|(apply zk<;>intro hc)|(refine zp ?_)|(refine zd ?_)|(refine cP (hI) ?_)|(refine cD (hI) ?_)|(refine cF (hI) ?_)|(refine cO (hI) ?_)|fail)
 exact Xp rfl

theorem cloneI_f (l:List Int) (hl:l.length≤1000000):FRet Tryz.prog 24 [.f (.fr 1 (l.map encI))] [.c (.own 1 l.length (rowF encI l))]:=by
 refine FCall.of_ax ZE ?_
 dsimp only[jm,ji,jf,jl,jL,jn,je,jx,jT,jC,jB,jq,jt,ju,jA,km,kf,kl,kn,kx,Xr]
 refine zrs ?_
 have h1:(l.length*8≤140737488355328)=True:=by rw[eq_iff_iff,iff_true];omega
 rcases Nat.eq_zero_or_pos l.length with h0|h0
 ·obtain rfl:=List.eq_nil_of_length_eq_zero h0
  repeat'(first|(simp -implicitDefEqProofs only[*,condS_bit,List.flatten_nil,List.map_nil,zr,seval,reduceIte,reduceCtorEq])|(apply zk<;>intro hc)|(refine zp ?_)|(refine zd ?_)|fail)
  refine⟨?_,?_⟩
  ·repeat'(first|(simp -implicitDefEqProofs only[*,List.flatten_nil,List.map_nil,zr,seval,reduceIte,reduceCtorEq])|(apply zk<;>intro hc)|(refine zp ?_)|(refine zd ?_)|fail)
   exact QAj rfl rfl
  ·repeat'(first|(simp -implicitDefEqProofs only[*,List.flatten_nil,List.map_nil,zr,seval,reduceIte,reduceCtorEq])|(apply zk<;>intro hc)|(refine zp ?_)|(refine zd ?_)|fail)
   exact KV rfl (by simp)
 ·have h0':(l.length=0)=False:=by rw[eq_iff_iff,iff_false];omega
  clear h0
  repeat'(first|(simp -implicitDefEqProofs only[*,zr,seval,reduceIte,reduceCtorEq])|(apply zk<;>intro hc)|(refine zp ?_)|(refine zd ?_)|fail)
  exact KV (by simp [cellsOf,H0,rowF]) (by rw[QD (sz:=1) (fun _=>rfl)];omega)

theorem QDs (n:Int):FRet Tryz.prog 22 [.f (.int .i64 n)] [.c (.v (.bool (!inRg n 0 20000)))]:=by
 have k:=Yo n 0 20000
 refine FCall.of_ax UW ?_
 dsimp only[jm,ji,jf,jl,jL,jn,je,jx,jT,jC,jB,jq,jt,ju,jA,km,kf,kl,kn,kx,ZF]
 refine zrs ?_
 generalize inRg n 0 20000=q at*
 cases q with
 | false=>
  repeat'(first|(simp -implicitDefEqProofs only[*,zr,seval,reduceIte,reduceCtorEq])|(apply zk<;>intro hc)|(refine zp ?_)|(refine zd ?_)|(refine cP (k) ?_)|(refine cD (k) ?_)|(refine cF (k) ?_)|(refine cO (k) ?_)|fail)
  exact VO
 | true=>
  repeat'(first|(simp -implicitDefEqProofs only[*,zr,seval,reduceIte,reduceCtorEq])|(apply zk<;>intro hc)|(refine zp ?_)|(refine zd ?_)|(refine cP (k) ?_)|(refine cD (k) ?_)|(refine cF (k) ?_)|(refine cO (k) ?_)|fail)
  exact VO
def delV (t:ByteArray) (b:List UInt8) (most:Nat):List Int→Rc→Int→Int × Rc × Int
 | [],r,s=>(0,r,s)
 | n::l,r,s=>
  if (YE t b most (b.length+2) n (1,t,0,b.length,[]) r s).1.2≠0 then((YE t b most (b.length+2) n (1,t,0,b.length,[]) r s).1.2,([],[]),0)
  else if (YE t b most (b.length+2) n (1,t,0,b.length,[]) r s).1.1=true then(0,(YE t b most (b.length+2) n (1,t,0,b.length,[]) r s).2)
  else delV t b most l (YE t b most (b.length+2) n (1,t,0,b.length,[]) r s).2.1 (YE t b most (b.length+2) n (1,t,0,b.length,[]) r s).2.2
theorem once_ok {t:ByteArray}{b:List UInt8}{most:Nat}(hd:XZ t=true) (hb:b.length≤100000) (hm:1≤most∧most≤65536):∀ (k:Nat) (left:Int) (m:Mg) (r:Rc) (s:Int),SOk t b most r m→meas b m<k→
  ((YE t b most k left m r s).1.2=0→ROk (YE t b most k left m r s).2.1)∧s≤(YE t b most k left m r s).2.2∧(YE t b most k left m r s).2.2≤s+(k:Int)*65536
 | 0,left,m,r,s,h,hk=>absurd hk (by omega)
 | k+1,left,m,r,s,h,hk=>by
  obtain⟨mk,fr,sz,bs,hmm,hbs⟩:=s_shape h hm.2
  have hbl:m.2.2.2.2.length≤65536:=by rw[hmm];exact hbs
  rw[YE]
  split
  ·exact⟨fun _=>h.ok,by dsimp only;omega,by dsimp only;omega⟩
  split
  ·refine⟨fun h0=> ?_,by dsimp only;omega,by dsimp only;omega⟩
   have e:=QDI h.ok h0
   have:=(KE (r:=r) (m:=m) (by rw[e];exact h0)).2.2.ok
   rw[e]at this
   exact this
  ·rename_i hc
   have h0:(VC r.1 r.2 m).1=0:=by
    by_cases hh:(VC r.1 r.2 m).1=0
    ·exact hh
    ·exact absurd (.inl hh) hc
   have h3:(VC r.1 r.2 m).2.2.1=3:=by
    by_cases hh:(VC r.1 r.2 m).2.2.1=3
    ·exact hh
    ·exact absurd (.inr hh) hc
   obtain⟨n,k1,k2,k3,k4⟩:=s_step h hd hb hm h0 h3
   rw[k1,Int.toNat_natCast]
   have hme:meas b (dMsg t b n most)=b.length - n:=by
    unfold meas dMsg
    rw[if_neg (show(2:Int)≠1 by decide)]
    show b.length - ((n:Int)).toNat=_
    rw[Int.toNat_natCast]
   obtain⟨q1,q2,q3⟩:=once_ok hd hb hm k (left - 1) (dMsg t b n most) (VC r.1 r.2 m).2.1 (s+m.2.2.2.2.length) (s_next k2 k3) (by omega)
   exact⟨q1,by omega,by omega⟩
end Go.Proofs.YtjfchihkhpinmaaGreatDoor
