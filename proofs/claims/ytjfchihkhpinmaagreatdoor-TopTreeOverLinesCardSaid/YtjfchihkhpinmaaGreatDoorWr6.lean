/-
  A part is begun. No statement of the seat is proved here; no conditions.
-/
import Derived.Test.YtjfchihkhpinmaaGreatDoorWr5
namespace Go.Proofs.YtjfchihkhpinmaaGreatDoor
open Go.RowKit Go.Shelf
set_option linter.unusedVariables false
set_option linter.unusedSimpArgs false
set_option maxRecDepth 100000

def TQ (t:ByteArray) (v1:Nat) (zs:List FV) (b2 b3 b4:Nat) (V:TR) (r:AV) (hl:List (Nat × Nat × AObj)):Prop:=
 ∃ z w2 w3 w4,(z=true→yOf t V.2.1.2 = [])∧r=.tup [.agg ((fAn V.2.2).map .f),.f (.int .i64 V.1)]∧hl=hiR V.2.1.1 V.2.1.2 t z v1 w2 w3 w4 zs∧w2<b2∧w3<b3∧w4<b4
theorem Yy {z:Bool}{v:Nat}{t:ByteArray}{P:List Pt}{p:Pt}(h:P[Qc P t]? = some p) (ht:p.1=t):(rowA (aY z v) t P)[Qc P t*3+1]? = some (.f (.int .i64 p.2.1))∧(rowA (aY z v) t P)[Qc P t*3+2]? = some (aY z v p.2.2.length)∧(Qc P t*3+2+1≤(rowA (aY z v) t P).length)=True:=by
 obtain⟨q1,q2,q3⟩:=QBr (a:=aY z v) (t:=t) h
 have hl:=(List.getElem?_eq_some_iff.1 h).1
 have e:rowA (aY z v) t P=rowA (aY z v) t (P.take (Qc P t))++(fPtA (aY z v) t p++rowA (aY z v) t (P.drop (Qc P t+1))):=by
  conv=>lhs;rw[← List.take_append_drop (Qc P t) P,q2,Kj,Vt]
 have hf:fPtA (aY z v) t p = [.f (.str p.1),.f (.int .i64 p.2.1),aY z v p.2.2.length]:=by unfold fPtA;rw[if_pos ht]
 refine⟨?_,?_,?_⟩
 ·rw[e,List.getElem?_append_right (by omega),q3,Nat.add_sub_cancel_left,hf];rfl
 ·rw[e,List.getElem?_append_right (by omega),q3,Nat.add_sub_cancel_left,hf];rfl
 ·rw[eq_iff_iff,iff_true,Ji];omega
section
variable {P:Program}{R:Env→Heap→Prop}{Λ : Lams}{k:List It}{env:Env}{H:Heap}{d j:Nat}{f:Operand}{args:List Operand}{g:Option (Nat × Bool)}{dos:List DO}{acc:List Fp}{od:List Nat}{fid:FuncId}{ri rs:List RS}{tl:List AV}{pcs pcs':List RC}
theorem callDM (hg:gd g env=some true) (hF:FRetM P fid ri tl rs) (hfn:evA env f=.f (.fn (.func fid))) (l tl0:List AV) (ha:args.map (evA env)=l++tl0) (hri:RsOk H ri l) (hnd:(idsS l).Nodup) (htl:LeL tl0 tl) (hp:tl.all AV.pure=true) (hfree:Free d H)
  (hk:VQ acc od [] (idsS l++wrL d (Qs 0 rs))=true)
  (h:srun P R 300 Λ (.dops dos (j+1) (XQ j [] (idsS l++wrL d (Qs 0 rs)) acc)::k) (putE env (some d) (QI (putS d 0 rs))) (Qz d 0 rs (Xh (idsS l) H))):Ax P R Λ (.dops (⟨some d,.call f args,g,od⟩::dos) j acc::k) env H:=by
 generalize hwr:idsS l++wrL d (Qs 0 rs)=wr at hk h
 have mids:∀ i,i∈idsS l→i∈wr:=fun i hi=>by rw[← hwr];exact List.mem_append_left _ hi
 have mwr:∀ j,j<Qs 0 rs→d+1000*j∈wr:=fun j hj=>by rw[← hwr];exact List.mem_append_right _ (Wo.2 ⟨j,hj,rfl⟩)
 have out:∀ (H:Heap) i,i∉wr→Qz d 0 rs (Xh (idsS l) H) i=H i:=fun H i hi=>by
  rw[JA fun j h1 h2 e=>hi (by rw[e];exact mwr j h2),Xg,if_neg (fun h=>hi (mids i h))]
 refine WY (f:=f) (args:=args) (rd:=[]) (wr:=wr) rfl hg (out H) (fun H2 hr hw=> ?_) hk (QP 300 _ _ _ _ h)
 rw[hfn,ha]
 refine ACall.mono (call_m (t:=d) hF (OI hri fun i hi=>hw i (mids i hi)) hnd htl hp (fun j hj=>by rw[hw _ (mwr j hj)];exact hfree j)) fun r H' ⟨h1,h2⟩=>⟨h1,?_⟩
 rw[h2]
 funext i
 unfold mix
 split
 ·rename_i hi
  refine Jj ?_
  rw[Xg,Xg,hw i hi]
 ·rename_i hi;exact out H2 i hi
theorem gDM (hF:FRetM P fid ri tl rs) (l tl0:List AV) (h:srun P R 300 Λ (.dops dos (j+1) (XQ j [] (idsS l++wrL d (Qs 0 rs)) acc)::k) (putE env (some d) (QI (putS d 0 rs))) (Qz d 0 rs (Xh (idsS l) H))) (hg:gd g env=some true:=by rfl) (hfn:evA env f=.f (.fn (.func fid)):=by rfl) (ha:args.map (evA env)=l++tl0:=by rfl)
  (hri:RsOk H ri l:=by(repeat (first|exact rfl|exact trivial|refine And.intro rfl ?_|refine And.intro (Or.inr ⟨_,_,rfl,rfl,(by first|exact Nat.le_refl _|exact QCc (fun _=>rfl)|exact OJ (fun _=>rfl))⟩) ?_));first|done|fail) (hnd:(idsS l).Nodup:=by simp [idsC,idsS]) (htl:LeL tl0 tl:=by first|exact LeL.refl _|((repeat (first|exact LeL.refl _|exact LeA.refl _|exact LeA.nil _|refine LeL.cons ?_ ?_|refine LeA.agg ?_));first|done|fail)) (hp:tl.all AV.pure=true:=by rfl) (hfree:Free d H:=by first|exact Vx|exact QQ rfl|(repeat (first|exact Vx|exact QQ rfl|exact QQ (by first|(simp;done)|fail)|refine Qa rfl ?_|refine YH ?_));first|done|fail) (hk:VQ acc od [] (idsS l++wrL d (Qs 0 rs))=true:=by rfl):Ax P R Λ (.dops (⟨some d,.call f args,g,od⟩::dos) j acc::k) env H:=
 callDM hg hF hfn l tl0 ha hri hnd htl hp hfree hk h
end
theorem QA {v:Nat}{cs:List AV} : cellsOf v (v,some (.cells cs))=some cs:=if_pos rfl
theorem Vf {H:Heap}{D:List Ob}{P:List Pt}{t:ByteArray}{z:Bool}{v1 v2 v3 v4 b2 b3 b4:Nat}{zs:List FV}{V:TR}{r:AV}(hV:V.2.1=(D,P)) (hz:z=true→yOf t P = []) (hr:r=.tup [.agg ((fAn V.2.2).map .f),.f (.int .i64 V.1)]) (hs:Small H) (h1:H 100001=VP 100001 (hiR D P t z v1 v2 v3 v4 zs)) (h2:H 100002=VP 100002 (hiR D P t z v1 v2 v3 v4 zs)) (h3:H 100101=VP 100101 (hiR D P t z v1 v2 v3 v4 zs)) (h4:H 100102=VP 100102 (hiR D P t z v1 v2 v3 v4 zs)) (h5:H 100103=VP 100103 (hiR D P t z v1 v2 v3 v4 zs)) (hw:v2<b2∧v3<b3∧v4<b4:=by omega):HiQ (TQ t v1 zs b2 b3 b4 V) r H:=
 ⟨hiR D P t z v1 v2 v3 v4 zs,⟨z,v2,v3,v4,by rw[hV];exact hz,hr,by rw[hV],hw⟩,Jx hs rfl h1 h2 h3 h4 h5⟩
theorem FRetM.cut1 {P:Program}{f:FuncId}{ri:List RS}{tl:List AV}{sz n:Nat}{ds t:List FV}(h:FRetM P f ri tl [.c (.own sz n (ds++t))]) (hl:n*sz≤ds.length):FRetM P f ri tl [.c (.own sz n ds)]:=
 ⟨h.1,fun G Z w vs h1 h2 h3=>(h.2 G Z w vs h1 h2 h3).mono fun e w' ⟨v,r,H',G',Z',e1,⟨l,hr,hrs,hnd⟩,st,hh,hrep⟩=>by
  match l,hrs with
  | a::l',hrs=>
   obtain⟨k1,k2⟩:=hrs
   obtain rfl:l' = []:=k2
   have hnd2:(idsC [a]).Nodup:=by cases a<;>first|exact List.nodup_nil|simp [idsC]
   obtain⟨H2,s2,j1,-⟩:=QBW (pcs:=[.own sz n (ds++t)]) (pcs2:=[.own sz n ds]) (cs:=[a]) st ⟨k1,rfl⟩ ⟨rcCut_t hl,rfl⟩ hnd2
   exact⟨v,r,H2,G',Z',e1,⟨[a],hr,⟨j1.1,rfl⟩,hnd⟩,s2,hh,hrep⟩⟩
theorem QAG {P:List Pt}{t:ByteArray}(h:Qc P t<P.length):(delP P t).length=P.length - 1:=by
 unfold delP;rw[List.length_append,List.length_take,List.length_drop];omega
theorem delP_idx {P:List Pt}(hr:QZ kPt P) (t:ByteArray):Qc (delP P t) t=Qc P t:=by
 obtain⟨h1,h2,h3⟩:=bs_lt (cf:=fun b:Pt=>cmpB b.1 t) (UV (key:=kPt) hr t)
 have e1:∀ m,m<Qc P t→(delP P t)[m]? = P[m]?:=fun m hm=>by
  unfold delP
  rw[List.getElem?_append_left (by rw[List.length_take];have:Qc P t≤P.length:=h1;omega),List.getElem?_take,if_pos hm]
 have e2:∀ m,Qc P t≤m→(delP P t)[m]? = P[m+1]?:=fun m hm=>by
  have hle:Qc P t≤P.length:=h1
  unfold delP
  rw[List.getElem?_append_right (by rw[List.length_take];omega),List.length_take,Nat.min_eq_left hle,List.getElem?_drop]
  congr 1;omega
 refine WW ?_ (fun m x hm hx=> ?_) fun m x hm hx=> ?_
 ·unfold delP;rw[List.length_append,List.length_take]
  have:Qc P t≤P.length:=h1
  omega
 ·rw[e1 m hm]at hx;exact h2 m x hm hx
 ·rw[e2 m hm]at hx
  exact h3 (m+1) x (by have:Qc P t≤m:=hm;show YJ _ P≤m+1;exact Nat.le_succ_of_le this) hx
theorem QBT (P:List Pt) (t:ByteArray) (h:Qc P t<P.length) (hn:P.length≤1000000) :
  FRetM Tryz.prog 109 [.c (.own 3 P.length (rowF fPt P)),.c (.v (.int .i64 (Qc P t))),.c (.v (.int .i64 ((Qc P t+1:Nat):Int)))] []
   [.c (.own 3 (delP P t).length (rowF fPt (delP P t)))]:=by
 have k:=QBU P (Qc P t) (Qc P t+1) (by omega) (by omega) hn
 rw[show Qc P t+(P.length - (Qc P t+1))=(delP P t).length by rw[QAG h];omega]at k
 exact k.cut1 (by rw[QD (sz:=3) (fun _=>rfl)];exact Nat.le_refl _)
theorem Zm {H:Heap}(zs:List FV):YD H (zs.map .v) (zs.map .f)∧idsC (zs.map .f) = []:=by
 induction zs with
 | nil=>exact⟨rfl,rfl⟩
 | cons z zs ih=>exact⟨⟨rfl,ih.1⟩,ih.2⟩
theorem Mw {τ : Turn}{a:Mg}{n:Int} : AV.turn τ (.tup [.agg ((fAn a).map .f),.f (.int .i64 n)])=.tup [.agg ((fAn a).map .f),.f (.int .i64 n)]:=rfl
theorem tq_mv2 {H:Heap}{D:List Ob}{P:List Pt}{t:ByteArray}{z:Bool}{v1 u2 u3 w2 w3 w4 i2 i3 b2 b3 b4:Nat}{zs:List FV}{V:TR}{r:AV}{C:List FV}(hV:V.2.1=(D,P)) (hz:z=true→yOf t P = []) (hr:r=.tup [.agg ((fAn V.2.2).map .f),.f (.int .i64 V.1)]) (hs:Small H)
  (h1:H 100001=(v1,some (.cells (.sl i2 u2 2 0 D.length:: .sl i3 u3 3 0 P.length::zs.map .f)))) (h2:H i2=(u2,some (.cells ((rowF fOb D).map .f)))) (h3:H i3=(u3,some (.cells (C.map .f)))) (h4:H 100102=(w4,some (.cells (frY (yOf t P))))) (h5:H 100103=(0,none)) (hC:C.map .f=rowA (aY z w4) t P)
  (o2:(H 100002).1<w2) (o3:(H 100101).1<w3) (hi2:i2<100000) (hi3:i3<100000) (hne:i2≠i3) (hw:w2<b2∧w3<b3∧w4<b4:=by omega):∃ l,MvOk H l∧HiQ (TQ t v1 zs b2 b3 b4 V) (r.turn (mvT H l)) (mvH H l):=by
 have f2:∀ (sz n:Nat),AV.turn (mvT H [(i2,100002,w2),(i3,100101,w3)]) (.sl i2 u2 sz 0 n)=.sl 100002 w2 sz 0 n:=fun sz n=>by
  have:mvTo H [(i2,100002,w2),(i3,100101,w3)] i2 u2=some (100002,w2):=by unfold mvTo;simp [h2]
  show(match mvTo H [(i2,100002,w2),(i3,100101,w3)] i2 u2 with|some q=>AV.sl q.1 q.2 sz 0 n|none=> .any)=_
  rw[this]
 have f3:∀ (sz n:Nat),AV.turn (mvT H [(i2,100002,w2),(i3,100101,w3)]) (.sl i3 u3 sz 0 n)=.sl 100101 w3 sz 0 n:=fun sz n=>by
  have:mvTo H [(i2,100002,w2),(i3,100101,w3)] i3 u3=some (100101,w3):=by unfold mvTo;simp [h3,hne]
  show(match mvTo H [(i2,100002,w2),(i3,100101,w3)] i3 u3 with|some q=>AV.sl q.1 q.2 sz 0 n|none=> .any)=_
  rw[this]
 refine⟨[(i2,100002,w2),(i3,100101,w3)],⟨by simp [hne],by show [100002,100101].Nodup;decide,fun e he=> ?_⟩,hiR D P t z v1 w2 w3 w4 zs,⟨z,w2,w3,w4,by rw[hV];exact hz,by rw[hr];exact Mw,by rw[hV],hw⟩,Jx (ZQ hs rfl) rfl ?_ ?_ ?_ ?_ ?_⟩
 ·simp only[List.mem_cons,List.not_mem_nil,or_false]at he
  rcases he with rfl|rfl
  ·exact⟨by show 100000≤100002;decide,o2⟩
  ·exact⟨by show 100000≤100101;decide,o3⟩
 ·unfold mvH
  simp only[List.find?_cons,List.find?_nil,List.any_cons,List.any_nil,Nat.reduceBEq,beq_eq_false_iff_ne.2 (show i2≠100001 by omega),beq_eq_false_iff_ne.2 (show i3≠100001 by omega),Bool.or_self,Bool.false_eq_true,if_false,h1,Option.map_some,tnO]
  show _=(v1,some (AObj.cells ([.sl 100002 w2 2 0 D.length,.sl 100101 w3 3 0 P.length]++zs.map .f)))
  rw[tl_cons,tl_cons,tl_fs,f2,f3];rfl
 ·unfold mvH
  simp only[List.find?_cons,List.find?_nil,Nat.reduceBEq,h2,Option.map_some,tnO,tl_fs]
  rfl
 ·unfold mvH
  simp only[List.find?_cons,List.find?_nil,Nat.reduceBEq,h3,Option.map_some,tnO]
  rw[tl_fs,hC];rfl
 ·unfold mvH
  simp only[List.find?_cons,List.find?_nil,List.any_cons,List.any_nil,Nat.reduceBEq,beq_eq_false_iff_ne.2 (show i2≠100102 by omega),beq_eq_false_iff_ne.2 (show i3≠100102 by omega),Bool.or_self,Bool.false_eq_true,if_false,h4,Option.map_some,tnO,frY,tl_fs]
  rfl
 ·unfold mvH
  simp only[List.find?_cons,List.find?_nil,List.any_cons,List.any_nil,Nat.reduceBEq,beq_eq_false_iff_ne.2 (show i2≠100103 by omega),beq_eq_false_iff_ne.2 (show i3≠100103 by omega),Bool.or_self,Bool.false_eq_true,if_false,h5,Option.map_none]
  rfl
theorem QCP {H:Heap}{D:List Ob}{P:List Pt}{t:ByteArray}{z:Bool}{v1 v2 u3 w3 w4 i3 b2 b3 b4:Nat}{zs:List FV}{V:TR}{r:AV}{C:List FV}(hV:V.2.1=(D,P)) (hz:z=true→yOf t P = []) (hr:r=.tup [.agg ((fAn V.2.2).map .f),.f (.int .i64 V.1)]) (hs:Small H)
  (h1:H 100001=(v1,some (.cells (.sl 100002 v2 2 0 D.length:: .sl i3 u3 3 0 P.length::zs.map .f)))) (h2:H 100002=(v2,some (.cells ((rowF fOb D).map .f)))) (h3:H i3=(u3,some (.cells (C.map .f)))) (h4:H 100102=(w4,some (.cells (frY (yOf t P))))) (h5:H 100103=(0,none)) (hC:C.map .f=rowA (aY z w4) t P)
  (o3:(H 100101).1<w3) (hi3:i3<100000) (hw:v2<b2∧w3<b3∧w4<b4:=by omega):∃ l,MvOk H l∧HiQ (TQ t v1 zs b2 b3 b4 V) (r.turn (mvT H l)) (mvH H l):=by
 have f2:∀ (sz n:Nat),AV.turn (mvT H [(i3,100101,w3)]) (.sl 100002 v2 sz 0 n)=.sl 100002 v2 sz 0 n:=fun sz n=>by
  have:mvTo H [(i3,100101,w3)] 100002 v2=some (100002,v2):=by unfold mvTo;simp [show i3≠100002 by omega]
  show(match mvTo H [(i3,100101,w3)] 100002 v2 with|some q=>AV.sl q.1 q.2 sz 0 n|none=> .any)=_
  rw[this]
 have f3:∀ (sz n:Nat),AV.turn (mvT H [(i3,100101,w3)]) (.sl i3 u3 sz 0 n)=.sl 100101 w3 sz 0 n:=fun sz n=>by
  have:mvTo H [(i3,100101,w3)] i3 u3=some (100101,w3):=by unfold mvTo;simp [h3]
  show(match mvTo H [(i3,100101,w3)] i3 u3 with|some q=>AV.sl q.1 q.2 sz 0 n|none=> .any)=_
  rw[this]
 refine⟨[(i3,100101,w3)],⟨by simp,by show [100101].Nodup;decide,fun e he=> ?_⟩,hiR D P t z v1 v2 w3 w4 zs,⟨z,v2,w3,w4,by rw[hV];exact hz,by rw[hr];exact Mw,by rw[hV],hw⟩,Jx (ZQ hs rfl) rfl ?_ ?_ ?_ ?_ ?_⟩
 ·simp only[List.mem_cons,List.not_mem_nil,or_false]at he
  subst he
  exact⟨by show 100000≤100101;decide,o3⟩
 ·unfold mvH
  simp only[List.find?_cons,List.find?_nil,List.any_cons,List.any_nil,Nat.reduceBEq,beq_eq_false_iff_ne.2 (show i3≠100001 by omega),Bool.or_self,Bool.false_eq_true,if_false,h1,Option.map_some,tnO]
  show _=(v1,some (AObj.cells ([.sl 100002 v2 2 0 D.length,.sl 100101 w3 3 0 P.length]++zs.map .f)))
  rw[tl_cons,tl_cons,tl_fs,f2,f3];rfl
 ·unfold mvH
  simp only[List.find?_cons,List.find?_nil,List.any_cons,List.any_nil,Nat.reduceBEq,beq_eq_false_iff_ne.2 (show i3≠100002 by omega),Bool.or_self,Bool.false_eq_true,if_false,h2,Option.map_some,tnO,tl_fs]
  rfl
 ·unfold mvH
  simp only[List.find?_cons,List.find?_nil,Nat.reduceBEq,h3,Option.map_some,tnO]
  rw[tl_fs,hC];rfl
 ·unfold mvH
  simp only[List.find?_cons,List.find?_nil,List.any_cons,List.any_nil,Nat.reduceBEq,beq_eq_false_iff_ne.2 (show i3≠100102 by omega),Bool.or_self,Bool.false_eq_true,if_false,h4,Option.map_some,tnO,frY,tl_fs]
  rfl
 ·unfold mvH
  simp only[List.find?_cons,List.find?_nil,List.any_cons,List.any_nil,Nat.reduceBEq,beq_eq_false_iff_ne.2 (show i3≠100103 by omega),Bool.or_self,Bool.false_eq_true,if_false,h5,Option.map_none]
  rfl
theorem begin_hi (D:List Ob) (P:List Pt) (m:Mg) (z:Bool) (v1 v2 v3 v4:Nat) (zs:List FV) (hD:D.length≤4000) (hrD:QZ kOb D) (hP:P.length≤1000000) (hrP:QZ kPt P) (hz:z=true→yOf m.2.1 P = []) :
  FHi Tryz.prog 78 [.ptr 100001 v1 0,aMg m] (hiR D P m.2.1 z v1 v2 v3 v4 zs) (TQ m.2.1 v1 zs (v2+3) (v3+3) (v4+3) (Xv D P m.2.1 m.2.2.2.1)):=by
 obtain⟨mk,t,fr,sz,b⟩:=m
 dsimp only at hz ⊢
 have kp:=QCi P .any rfl t hP hrP
 refine FHi.of (FCall.of_ax ML ?_)
 dsimp only[jm,ji,jf,jl,jL,jn,je,jx,jT,jC,jB,jq,jt,ju,jA,km,kf,kl,kn,kx,KJ,aMg,fMg,hiR,List.map]
 refine zrs ?_
 repeat'(first|(simp -implicitDefEqProofs only[*,List.cons_append,List.nil_append,QE,zr,seval,reduceIte,reduceCtorEq])|(apply zk<;>intro hc)|(refine zp ?_)|(refine zd ?_)|fail)
 refine KQ [100101,100102] kp (fun H2 hh=>⟨Kr (v4:=v4) (v3:=v3) hrP (by rw[hh 100102 (by simp)];exact QA) hz (by rw[hh 100101 (by simp)];exact QA),.inl (.inl fz_f),trivial⟩) ?_
 cases hg:pGet P t with
 | some p=>
  obtain⟨g1,g2,g3⟩:=XO hrP hg
  obtain⟨c1,c2,c3⟩:=Yy (z:=z) (v:=v4) g1 g2
  rw[g3]
  obtain⟨i,hi⟩:∃ i,Qc P t=i:=⟨_,rfl⟩
  by_cases he:p.2.1=sz
  ·have eV:Xv D P t sz=((0,(D,P),(3,t,(p.2.2.length:Int),0,[])):TR):=by unfold Xv;rw[hg];simp only;rw[if_pos he]
   rw[eV]
   have de:decide (p.2.1=sz)=true:=dcT he
   have hlt:((i:Int)<(P.length:Int)):=by have:=(List.getElem?_eq_some_iff.1 g1).1;omega
   rw[hi]at c1 c2 c3 ⊢
   have hrow:=hide hrP
   have hZ:=hide hz
   have g1':=hide g1
   have hy:=Ug hrP (List.mem_of_getElem? g1)
   rw[g2]at hy
   replace hy:=hide hy
   clear hrP hz g1 kp
   cases z with
   | true=>
    have h0:p.2.2 = []:=by rw[← hy.out];exact hZ.out rfl
    rw[h0]at c2 ⊢
    have c2':(rowA (aY true v4) t P)[i*3+2]? = some (.f .nil):=c2
    clear c2
    repeat'(first|(simp -implicitDefEqProofs only[*,QE,zr,seval,reduceIte,reduceCtorEq])|(apply zk<;>intro hc)|(refine zp ?_)|(refine zd ?_)|fail)
    exact .inl (Vf (D:=D) (P:=P) (z:=true) (v2:=v2) (v3:=v3) (v4:=v4) rfl hZ.out rfl (QC rfl (QC rfl (QC rfl (QG rfl)))) rfl rfl rfl rfl rfl)
   | false=>
    have c2':(rowA (aY false v4) t P)[i*3+2]? = some (.sl 100102 v4 1 0 p.2.2.length):=c2
    clear c2
    repeat'(first|(simp -implicitDefEqProofs only[*,QE,zr,seval,reduceIte,reduceCtorEq])|(apply zk<;>intro hc)|(refine zp ?_)|(refine zd ?_)|fail)
    exact .inl (Vf (D:=D) (P:=P) (z:=false) (v2:=v2) (v3:=v3) (v4:=v4) rfl hZ.out rfl (QC rfl (QC rfl (QC rfl (QG rfl)))) rfl rfl rfl rfl rfl)
  ·have eV:Xv D P t sz=beg2 D (delP P t) t sz:=by unfold Xv;rw[hg];simp only;rw[if_neg he]
   rw[eV]
   have de:decide (p.2.1=sz)=false:=dcF he
   have hlt0:=(List.getElem?_eq_some_iff.1 g1).1
   have hlt:((i:Int)<(P.length:Int)):=by omega
   have hw1:IntKind.i64.wrap ((i:Int)+1)=((i+1:Nat):Int):=by rw[QR]<;>omega
   have kd:=QBT P t hlt0 hP
   have hQr:=(XM.2 (List.Pairwise.sublist delP_sub (XM.1 hrP)):QZ kPt (delP P t))
   have hQn:=Ja hrP g1 g2
   have hQi:=delP_idx hrP t
   have hQl:=QAG hlt0
   rw[hi]at c1 c2 c3 kd hQi ⊢
   have hrow:=hide hrP
   have hZ:=hide hz
   have g1':=hide g1
   clear hrP hz g1 kp c2
   repeat'(first|(simp -implicitDefEqProofs only[*,QE,zr,seval,reduceIte,reduceCtorEq])|(apply zk<;>intro hc)|(refine zp ?_)|(refine zd ?_)|fail)
   refine MD 100102 v4 (n:=96) (el:=[(0,.ptr 100001 v1 0),(3,.ptr 3 1 0),(4,.ptr 4 1 0),(6,.f (.int .i64 i)),(44,.ptr 100001 v1 0),(48,.sl 100101 v3 3 0 P.length),(49,.f (.int .i64 i)),(51,.f (.int .i64 ((i+1:Nat):Int)))])
    (hl:=[(3,1,.cells [.f (.int .i64 mk),.f (.str t),.f (.int .i64 fr),.f (.int .i64 sz),.f (frB b)]),(4,1,.cells [.f (.int .i64 0),.f (.str ⟨#[]⟩),.f (.int .i64 0),.f (.int .i64 0),.f .nil]),(100001,v1,.cells (.sl 100002 v2 2 0 D.length:: .sl 100101 v3 3 0 P.length::zs.map .f)),(100002,v2,.cells ((rowF fOb D).map .f)),(100101,v3,.cells ((rowF fPt P).map .f))]) ?_ ?_ ?_
   ·simp only[zw,seval,reduceIte,reduceCtorEq]
   ·simp only[zw,seval,reduceIte,reduceCtorEq]
    exact Kg hrow.out QA rfl hZ.out
   refine gM kd [.sl 100101 v3 3 0 P.length,.f (.int .i64 i),.f (.int .i64 ((i+1:Nat):Int))] [] ?_ (hri:=⟨.inr ⟨_,_,rfl,QA,lenP rfl⟩,rfl,rfl,rfl⟩)
   obtain⟨Q,hQ⟩:∃ Q,delP P t=Q:=⟨_,rfl⟩
   rw[hQ]at hQr hQn hQi hQl ⊢
   have hQle:Q.length≤1000000:=by omega
   replace hQ:=hide hQ
   replace hQl:=hide hQl
   clear kd c1 c3
   replace hQr:=hide hQr
   by_cases s0:sz=0
   ·have eB:beg2 D Q t sz=VB D Q t []:=by unfold beg2;rw[if_pos s0]
    have ew:(VB D Q t []).2.1.2=Q:=by unfold VB;split<;>(try split)<;>rfl
    rw[eB]
    have d1:decide (sz=0)=true:=dcT s0
    have kw:=QBk D Q t [] zs hD hrD (by simp)
    obtain⟨V,hV⟩:∃ V,VB D Q t []=V:=⟨_,rfl⟩
    rw[hV]at kw ew ⊢
    replace hV:=hide hV
    replace kw:=hide kw
    replace ew:=hide ew
    replace s0:=hide s0
    clear eB
    repeat'(first|(simp -implicitDefEqProofs only[*,QE,QA,List.cons_append,List.nil_append,zr,seval,reduceIte,reduceCtorEq])|(apply zk<;>intro hc)|(refine zp ?_)|(refine zd ?_)|fail)
    refine gP kw.out 100001 v1 (.sl 100002 v2 2 0 D.length:: .sl 52 1 3 0 (Q).length::zs.map .f) [] [.f (.str t),.f .nil] ?_ (hc:=QA) (hpc:=⟨.inr ⟨_,_,rfl,QA,lenO rfl⟩,.inr ⟨_,_,rfl,QA,lenP rfl⟩,(Zm zs).1⟩) (hnd:=by simp [idsC,idsS,(Zm (H:=H0) zs).2]) (hni:=by simp [idsC,idsS,(Zm (H:=H0) zs).2])
    repeat'(first|(simp -implicitDefEqProofs only[*,Qe,QX,ZT,(Zm (H:=H0) zs).2,QA,List.cons_append,List.nil_append,rMg,rInt,fAn,zr,seval,reduceIte,reduceCtorEq])|(apply zk<;>intro hc)|(refine zp ?_)|(refine zd ?_)|fail)
    exact .inr (tq_mv2 (D:=V.2.1.1) (P:=Q) (z:=false) (u2:=1) (u3:=1) (w2:=v2+1) (w3:=v3+1) (w4:=v4+1) (i2:=62) (i3:=1062) (C:=rowF fPt Q) (by rw[← ew.out]) (fun h=>by cases h) rfl (by repeat (first|exact QG rfl|refine QC rfl ?_)) rfl rfl rfl (by rw[ZL hQn];rfl) rfl (VM hQn).symm (Nat.lt_succ_self v2) (Nat.lt_succ_self v3) (by decide) (by decide) (by decide))
   ·have d1:decide (sz=0)=false:=dcF s0
    by_cases s1:100≤(Q).length
    ·have eB:beg2 D Q t sz=(16,(D,Q),mg0):=by unfold beg2;rw[if_neg s0,if_pos s1]
     rw[eB]
     have d2:decide (((Q).length:Int)≥100)=true:=dcT (by omega)
     replace s0:=hide s0
     replace s1:=hide s1
     clear eB
     repeat'(first|(simp -implicitDefEqProofs only[*,QE,QA,List.cons_append,List.nil_append,zr,seval,reduceIte,reduceCtorEq])|(apply zk<;>intro hc)|(refine zp ?_)|(refine zd ?_)|fail)
     exact .inr (QCP (D:=D) (P:=Q) (z:=false) (v2:=v2) (u3:=1) (w3:=v3+1) (w4:=(v4+1)) (i3:=52) (C:=rowF fPt Q) rfl (fun h=>by cases h) rfl (by repeat (first|exact QG rfl|refine QC rfl ?_)) rfl rfl rfl (by rw[ZL hQn];rfl) rfl (VM hQn).symm (Nat.lt_succ_self v3) (by decide))
    ·have d2:decide (((Q).length:Int)≥100)=false:=dcF (by omega)
     by_cases s2:100000<sz
     ·have eB:beg2 D Q t sz=(1,(D,Q),mg0):=by unfold beg2;rw[if_neg s0,if_neg s1,if_pos s2]
      rw[eB]
      have d3:decide (sz > 100000)=true:=dcT s2
      replace s0:=hide s0
      replace s1:=hide s1
      replace s2:=hide s2
      clear eB
      repeat'(first|(simp -implicitDefEqProofs only[*,QE,QA,List.cons_append,List.nil_append,zr,seval,reduceIte,reduceCtorEq])|(apply zk<;>intro hc)|(refine zp ?_)|(refine zd ?_)|fail)
      exact .inr (QCP (D:=D) (P:=Q) (z:=false) (v2:=v2) (u3:=1) (w3:=v3+1) (w4:=(v4+1)) (i3:=52) (C:=rowF fPt Q) rfl (fun h=>by cases h) rfl (by repeat (first|exact QG rfl|refine QC rfl ?_)) rfl rfl rfl (by rw[ZL hQn];rfl) rfl (VM hQn).symm (Nat.lt_succ_self v3) (by decide))
     ·have eB:beg2 D Q t sz=(0,(D,insP Q (t,sz,[])),(3,t,0,0,[])):=by unfold beg2;rw[if_neg s0,if_neg s1,if_neg s2]
      rw[eB]
      have d3:decide (sz > 100000)=false:=dcF s2
      have kI:=QBC t Q i (t,sz,[]) (by rw[← hQi];exact Zh hQr.out t) (by omega)
      rw[QAg hQn,show(Q).take i++(t,sz,[])::(Q).drop i=insP Q (t,sz,[]) by rw[← hQi];rfl,show fPtN t (t,sz,[]) = [.str t,.int .i64 sz,.nil] by unfold fPtN;rw[if_pos rfl]]at kI
      have hJ:=rowN_A (t:=t) (insP Q (t,sz,[]))
      have hJy:yOf t (insP Q (t,sz,[])) = []:=Ug (Yv hQr.out (t,sz,[]) hQn) (Km.2 (.inl rfl))
      have hJl:=QCu hQr.out (x:=(t,sz,[]))
      generalize insP Q (t,sz,[])=J at*
      replace s0:=hide s0
      replace s1:=hide s1
      replace s2:=hide s2
      replace kI:=hide kI
      replace hJ:=hide hJ
      replace hJy:=hide hJy
      replace hJl:=hide hJl
      clear eB
      repeat'(first|(simp -implicitDefEqProofs only[*,QE,QA,List.cons_append,List.nil_append,zr,seval,reduceIte,reduceCtorEq])|(apply zk<;>intro hc)|(refine zp ?_)|(refine zd ?_)|fail)
      refine gDM kI.out [.sl 52 1 3 0 (Q).length,.f (.int .i64 i),.sl 89 1 3 0 1] [] ?_ (hri:=⟨.inr ⟨_,_,rfl,QA,lenP rfl⟩,rfl,.inr ⟨_,_,rfl,rfl,Nat.le_refl _⟩,rfl⟩)
      repeat'(first|(simp -implicitDefEqProofs only[*,QE,QA,List.cons_append,List.nil_append,zr,seval,reduceIte,reduceCtorEq])|(apply zk<;>intro hc)|(refine zp ?_)|(refine zd ?_)|fail)
      exact .inr (QCP (D:=D) (P:=J) (z:=true) (v2:=v2) (u3:=1) (w3:=v3+1) (w4:=v4+1) (i3:=90) (C:=rowF (fPtN t) J) rfl (fun _=>hJy.out) rfl (by repeat (first|exact QG rfl|refine QC rfl ?_)) (by rw[hJl.out];rfl) rfl rfl (by rw[hJy.out];rfl) rfl hJ.out (Nat.lt_succ_self v3) (by decide))
 | none=>
  have eV:Xv D P t sz=beg2 D P t sz:=by unfold Xv;rw[hg]
  rw[eV]
  have hQn:=JC hrP hg
  rw[hQn,VM hQn]
  have hZ:=hide hz
  have hQr:=hide hrP
  have hQle:=hP
  obtain⟨i,hQi⟩:∃ i,Qc P t=i:=⟨_,rfl⟩
  rw[hQi]
  clear hrP hz kp eV
  by_cases s0:sz=0
  ·have eB:beg2 D P t sz=VB D P t []:=by unfold beg2;rw[if_pos s0]
   have ew:(VB D P t []).2.1.2=P:=by unfold VB;split<;>(try split)<;>rfl
   rw[eB]
   have d1:decide (sz=0)=true:=dcT s0
   have kw:=QBk D P t [] zs hD hrD (by simp)
   obtain⟨V,hV⟩:∃ V,VB D P t []=V:=⟨_,rfl⟩
   rw[hV]at kw ew ⊢
   replace hV:=hide hV
   replace kw:=hide kw
   replace ew:=hide ew
   replace s0:=hide s0
   clear eB
   repeat'(first|(simp -implicitDefEqProofs only[*,QE,QA,List.cons_append,List.nil_append,zr,seval,reduceIte,reduceCtorEq])|(apply zk<;>intro hc)|(refine zp ?_)|(refine zd ?_)|fail)
   refine gP kw.out 100001 v1 (.sl 100002 v2 2 0 D.length:: .sl 100101 v3 3 0 (P).length::zs.map .f) [] [.f (.str t),.f .nil] ?_ (hc:=QA) (hpc:=⟨.inr ⟨_,_,rfl,QA,lenO rfl⟩,.inr ⟨_,_,rfl,QA,lenP rfl⟩,(Zm zs).1⟩) (hnd:=by simp [idsC,idsS,(Zm (H:=H0) zs).2]) (hni:=by simp [idsC,idsS,(Zm (H:=H0) zs).2])
   repeat'(first|(simp -implicitDefEqProofs only[*,Qe,QX,ZT,(Zm (H:=H0) zs).2,QA,List.cons_append,List.nil_append,rMg,rInt,fAn,zr,seval,reduceIte,reduceCtorEq])|(apply zk<;>intro hc)|(refine zp ?_)|(refine zd ?_)|fail)
   exact .inr (tq_mv2 (D:=V.2.1.1) (P:=P) (z:=z) (u2:=1) (u3:=1) (w2:=v2+1) (w3:=v3+1) (w4:=v4) (i2:=62) (i3:=1062) (C:=rowF fPt P) (by rw[← ew.out]) hZ.out rfl (by repeat (first|exact QG rfl|refine QC rfl ?_)) rfl rfl rfl rfl rfl (VM hQn).symm (Nat.lt_succ_self v2) (Nat.lt_succ_self v3) (by decide) (by decide) (by decide))
  ·have d1:decide (sz=0)=false:=dcF s0
   by_cases s1:100≤(P).length
   ·have eB:beg2 D P t sz=(16,(D,P),mg0):=by unfold beg2;rw[if_neg s0,if_pos s1]
    rw[eB]
    have d2:decide (((P).length:Int)≥100)=true:=dcT (by omega)
    replace s0:=hide s0
    replace s1:=hide s1
    clear eB
    repeat'(first|(simp -implicitDefEqProofs only[*,QE,QA,List.cons_append,List.nil_append,zr,seval,reduceIte,reduceCtorEq])|(apply zk<;>intro hc)|(refine zp ?_)|(refine zd ?_)|fail)
    exact .inl (Vf (D:=D) (P:=P) (z:=z) (v2:=v2) (v3:=v3) (v4:=v4) rfl hZ.out rfl (by repeat (first|exact QG rfl|refine QC rfl ?_)) rfl rfl (by show _=(v3,some (AObj.cells (rowA (aY z v4) t P)));rw[VM hQn];rfl) rfl rfl)
   ·have d2:decide (((P).length:Int)≥100)=false:=dcF (by omega)
    by_cases s2:100000<sz
    ·have eB:beg2 D P t sz=(1,(D,P),mg0):=by unfold beg2;rw[if_neg s0,if_neg s1,if_pos s2]
     rw[eB]
     have d3:decide (sz > 100000)=true:=dcT s2
     replace s0:=hide s0
     replace s1:=hide s1
     replace s2:=hide s2
     clear eB
     repeat'(first|(simp -implicitDefEqProofs only[*,QE,QA,List.cons_append,List.nil_append,zr,seval,reduceIte,reduceCtorEq])|(apply zk<;>intro hc)|(refine zp ?_)|(refine zd ?_)|fail)
     exact .inl (Vf (D:=D) (P:=P) (z:=z) (v2:=v2) (v3:=v3) (v4:=v4) rfl hZ.out rfl (by repeat (first|exact QG rfl|refine QC rfl ?_)) rfl rfl (by show _=(v3,some (AObj.cells (rowA (aY z v4) t P)));rw[VM hQn];rfl) rfl rfl)
    ·have eB:beg2 D P t sz=(0,(D,insP P (t,sz,[])),(3,t,0,0,[])):=by unfold beg2;rw[if_neg s0,if_neg s1,if_neg s2]
     rw[eB]
     have d3:decide (sz > 100000)=false:=dcF s2
     have kI:=QBC t P i (t,sz,[]) (by rw[← hQi];exact Zh hQr.out t) (by omega)
     rw[QAg hQn,show(P).take i++(t,sz,[])::(P).drop i=insP P (t,sz,[]) by rw[← hQi];rfl,show fPtN t (t,sz,[]) = [.str t,.int .i64 sz,.nil] by unfold fPtN;rw[if_pos rfl]]at kI
     have hJ:=rowN_A (t:=t) (insP P (t,sz,[]))
     have hJy:yOf t (insP P (t,sz,[])) = []:=Ug (Yv hQr.out (t,sz,[]) hQn) (Km.2 (.inl rfl))
     have hJl:=QCu hQr.out (x:=(t,sz,[]))
     generalize insP P (t,sz,[])=J at*
     replace s0:=hide s0
     replace s1:=hide s1
     replace s2:=hide s2
     replace kI:=hide kI
     replace hJ:=hide hJ
     replace hJy:=hide hJy
     replace hJl:=hide hJl
     clear eB
     repeat'(first|(simp -implicitDefEqProofs only[*,QE,QA,List.cons_append,List.nil_append,zr,seval,reduceIte,reduceCtorEq])|(apply zk<;>intro hc)|(refine zp ?_)|(refine zd ?_)|fail)
     refine gDM kI.out [.sl 100101 v3 3 0 (P).length,.f (.int .i64 i),.sl 89 1 3 0 1] [] ?_ (hri:=⟨.inr ⟨_,_,rfl,QA,lenP rfl⟩,rfl,.inr ⟨_,_,rfl,rfl,Nat.le_refl _⟩,rfl⟩)
     repeat'(first|(simp -implicitDefEqProofs only[*,QE,QA,List.cons_append,List.nil_append,zr,seval,reduceIte,reduceCtorEq])|(apply zk<;>intro hc)|(refine zp ?_)|(refine zd ?_)|fail)
     exact .inr (QCP (D:=D) (P:=J) (z:=true) (v2:=v2) (u3:=1) (w3:=v3+1) (w4:=v4) (i3:=90) (C:=rowF (fPtN t) J) rfl (fun _=>hJy.out) rfl (by repeat (first|exact QG rfl|refine QC rfl ?_)) (by rw[hJl.out];rfl) rfl rfl (by rw[hJy.out,← ZL hQn];rfl) rfl hJ.out (Nat.lt_succ_self v3) (by decide))
end Go.Proofs.YtjfchihkhpinmaaGreatDoor
