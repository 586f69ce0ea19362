/-
  A receiver of one's own takes a message. No statement of the seat is proved here; no conditions.
-/
import Derived.Test.YtjfchihkhpinmaaGreatDoorWr7
namespace Go.Proofs.YtjfchihkhpinmaaGreatDoor
open Go.RowKit Go.Shelf
set_option linter.unusedVariables false
set_option linter.unusedSimpArgs false
set_option maxRecDepth 100000

theorem hi_fs (l:List FV):(l.map AV.f).all AV.hi=true:=List.all_eq_true.2 fun a ha=>by obtain⟨x,_,rfl⟩:=List.mem_map.1 ha;rfl
theorem hi_rowA {a:Nat→AV}{t:ByteArray}(h:∀ n,(a n).hi=true) (P:List Pt):(rowA a t P).all AV.hi=true:=List.all_eq_true.2 fun x hx=>by
 obtain⟨p,_,hp⟩:=List.mem_flatMap.1 hx
 unfold fPtA at hp
 simp only[List.mem_cons,List.not_mem_nil,or_false]at hp
 rcases hp with rfl|rfl|rfl
 ·rfl
 ·rfl
 ·split
  ·exact h _
  ·rfl
theorem hi_aY {z:Bool}{v:Nat}(n:Nat):(aY z v n).hi=true:=by cases z<;>rfl
theorem hi_R {D:List Ob}{P:List Pt}{t:ByteArray}{z:Bool}{v1 v2 v3 v4:Nat}{zs:List FV} : JX (hiR D P t z v1 v2 v3 v4 zs)=true:=by
 unfold JX hiR
 simp only[List.all_cons,List.all_nil,Bool.and_true,Bool.and_eq_true]
 refine⟨?_,hi_fs _,hi_rowA hi_aY P,hi_fs _⟩
 rw[List.all_append,hi_fs];rfl
theorem tq_hi {t:ByteArray}{v1 b2 b3 b4:Nat}{zs:List FV}{V:TR}(r:AV) (hl:List (Nat × Nat × AObj)) (h:TQ t v1 zs b2 b3 b4 V r hl):r.hi=true∧JX hl=true:=by
 obtain⟨z,w2,w3,w4,_,rfl,rfl,_⟩:=h
 exact⟨rfl,hi_R⟩
theorem Oy {H:Heap}{v2:Nat}{x:AV}{D:List Ob}(hc:cellsOf v2 (H 100002)=some ((rowF fOb D).map .f)):FzA H (.agg [.sl 100002 v2 2 0 D.length,x]) (.agg [.f (XJ D),.any]):=
 .inr ⟨_,_,rfl,rfl,.inl (.inl (Zx (enc:=fOb) (sz:=2) (l:=D) (fun _=>rfl) rfl hc rfl)),.inl (.inl (by cases x<;>simp only[SlotOk])),trivial⟩
theorem QDm {m:Mg}{many:Int}(h:ckMg m many=0):(0≤m.2.2.1∧m.2.2.1≤2000000)∧(0≤m.2.2.2.1∧m.2.2.2.1≤2000000)∧many≤65536∧(m.1=2→0<many):=by
 unfold ckMg at h
 split at h
 ·cases h
 split at h
 ·cases h
 split at h
 ·cases h
 rename_i h3
 split at h
 ·cases h
 split at h
 ·cases h
 split at h
 ·cases h
 split at h
 ·cases h
 rename_i h7
 simp only[Bool.not_eq_false,Bool.and_eq_true,inRg,decide_eq_true_eq]at h3
 refine⟨by omega,by omega,by omega,fun e=> ?_⟩
 rw[e]at h7
 simpa using h7
set_option maxHeartbeats 8000000 in
theorem take_hi (D:List Ob) (P:List Pt) (m:Mg) (z:Bool) (v1 v2 v3 v4:Nat) (zs:List FV) (hok:ROk (D,P)) (hz:z=true→yOf m.2.1 P = []) (hbm:(m.2.2.2.2.length:Int)≤9223372036854775807) :
  FHi Tryz.prog 51 [.ptr 100001 v1 0,aMg m] (hiR D P m.2.1 z v1 v2 v3 v4 zs) (TQ m.2.1 v1 zs (v2+3) (v3+3) (v4+3) (VC D P m)):=by
 have hD:=hok.d.len
 have hrD:=hok.d.rise
 have hP:=hok.p.len
 have hrP:=hok.p.rise
 simp only at hD hrD hP hrP
 have kc:=MO m m.2.2.2.2.length
 have kd:=Ks D .any rfl m.2.1 (by omega) hrD
 have kp:=QCi P .any rfl m.2.1 (by omega) hrP
 have kb:=begin_hi D P m z v1 v2 v3 v4 zs hD hrD (by omega) hrP hz
 obtain⟨mk,t,fr,sz,b⟩:=m
 dsimp only at hz hbm kc kd kp kb ⊢
 unfold VC
 dsimp only
 refine FHi.of (FCall.of_ax Og ?_)
 dsimp only[jm,ji,jf,jl,jL,jn,je,jx,jT,jC,jB,jq,jt,ju,jA,km,kf,kl,kn,kx,Nh,aMg,fMg,hiR,List.map]
 refine zrs ?_
 by_cases h1:ckMg (mk,t,fr,sz,b) b.length=0
 case neg=>
  rw[if_pos h1]
  have d1:=dcF h1
  generalize ckMg (mk,t,fr,sz,b) b.length=q at*
  replace kc:=hide kc
  replace h1:=hide h1
  clear kd kp kb
  replace hz:=hide hz
  repeat'(first|(simp -implicitDefEqProofs only[*,List.cons_append,List.nil_append,frB,List.length_map,zr,seval,reduceIte,reduceCtorEq])|(apply zk<;>intro hc)|(refine zp ?_)|(refine zd ?_)|(refine cP (kc.out) ?_)|(refine cD (kc.out) ?_)|(refine cF (kc.out) ?_)|fail)
  exact .inl (Vf (D:=D) (P:=P) (z:=z) (v2:=v2) (v3:=v3) (v4:=v4) rfl hz.out rfl (by repeat (first|exact QG rfl|refine QC rfl ?_)) rfl rfl rfl rfl rfl)
 rw[if_neg (fun h=>h h1)]
 obtain⟨mf,ms,mb,mk2⟩:=QDm h1
 dsimp only at mf ms mb mk2
 rw[h1]at kc
 have hck:=hide h1
 clear h1
 replace kc:=hide kc
 by_cases h2:mk≠1∧mk≠2∧mk≠6
 ·rw[if_pos h2]
  have e1:decide (mk=1)=false:=dcF h2.1
  have e2:decide (mk=2)=false:=dcF h2.2.1
  have e3:decide (mk=6)=false:=dcF h2.2.2
  clear kd kp kb
  replace hz:=hide hz
  replace h2:=hide h2
  replace mk2:=hide mk2
  repeat'(first|(simp -implicitDefEqProofs only[*,List.cons_append,List.nil_append,frB,List.length_map,zr,seval,reduceIte,reduceCtorEq])|(apply zk<;>intro hc)|(refine zp ?_)|(refine zd ?_)|(refine cP (kc.out) ?_)|(refine cD (kc.out) ?_)|(refine cF (kc.out) ?_)|fail)
  exact .inl (Vf (D:=D) (P:=P) (z:=z) (v2:=v2) (v3:=v3) (v4:=v4) rfl hz.out rfl (by repeat (first|exact QG rfl|refine QC rfl ?_)) rfl rfl rfl rfl rfl)
 rw[if_neg h2]
 have e0:mk=1∨mk=2∨mk=6:=by omega
 rcases e0 with rfl|rfl|rfl
 ·clear h2
  replace mk2:=hide mk2
  replace hck:=hide hck
  repeat'(first|(simp -implicitDefEqProofs only[*,List.cons_append,List.nil_append,frB,List.length_map,QE,zr,seval,reduceIte,reduceCtorEq])|(apply zk<;>intro hc)|(refine zp ?_)|(refine zd ?_)|(refine cP (kc.out) ?_)|(refine cD (kc.out) ?_)|(refine cF (kc.out) ?_)|fail)
  refine KQ [100002] kd (fun H2 hh=>⟨Oy (by rw[hh 100002 (by simp)];exact QA),.inl (.inl fz_f),trivial⟩) ?_
  by_cases h3:hasK kOb D t=true
  ·rw[if_pos h3]
   rw[h3]
   clear kd kp kb
   replace hz:=hide hz
   replace hrP:=hide hrP
   replace hrD:=hide hrD
   repeat'(first|(simp -implicitDefEqProofs only[*,QE,List.cons_append,List.nil_append,frB,List.length_map,zr,seval,reduceIte,reduceCtorEq])|(apply zk<;>intro hc)|(refine zp ?_)|(refine zd ?_)|fail)
   exact .inl (Vf (D:=D) (P:=P) (z:=z) (v2:=v2) (v3:=v3) (v4:=v4) rfl hz.out rfl (by repeat (first|exact QG rfl|refine QC rfl ?_|refine VE ?_)) rfl rfl rfl rfl rfl)
  rw[if_neg h3]
  rw[show hasK kOb D t=false by simpa using h3]
  have h3':=hide h3
  clear h3
  repeat'(first|(simp -implicitDefEqProofs only[*,QE,List.cons_append,List.nil_append,frB,List.length_map,zr,seval,reduceIte,reduceCtorEq])|(apply zk<;>intro hc)|(refine zp ?_)|(refine zd ?_)|fail)
  refine KQ [100101,100102] kp (fun H2 hh=>⟨Kr (v4:=v4) (v3:=v3) hrP (by rw[hh 100102 (by simp)];exact QA) hz (by rw[hh 100101 (by simp)];exact QA),.inl (.inl fz_f),trivial⟩) ?_
  replace kb:=hide kb
  generalize hasK kPt P t=hk at*
  replace hz:=hide hz
  replace hrP:=hide hrP
  replace hrD:=hide hrD
  clear kd kp
  repeat'(first|(simp -implicitDefEqProofs only[*,QE,List.cons_append,List.nil_append,frB,List.length_map,zr,seval,reduceIte,reduceCtorEq])|(apply zk<;>intro hc)|(refine zp ?_)|(refine zd ?_)|fail)
  refine KP rfl kb.out rfl rfl (Jx (by repeat (first|exact QG rfl|refine QC rfl ?_)) rfl rfl rfl rfl rfl rfl) tq_hi hi_R rfl ?_
  rintro r hl' ⟨z',w2,w3,w4,hz',rfl,rfl,hwb⟩
  replace hz':=hide hz'
  generalize Xv D P t sz=V at*
  refine zrs ?_
  repeat'(first|(simp -implicitDefEqProofs only[*,XG,QE,zr,seval,reduceIte,reduceCtorEq])|(apply zk<;>intro hc)|(refine zp ?_)|(refine zd ?_)|fail)
  exact .inl (Vf (D:=V.2.1.1) (P:=V.2.1.2) (z:=z') (v2:=w2) (v3:=w3) (v4:=w4) rfl hz'.out rfl (by repeat (first|exact QG rfl|refine QC rfl ?_|refine VE ?_)) rfl rfl rfl rfl rfl)
 ·clear h2
  replace mk2:=hide mk2
  replace hck:=hide hck
  repeat'(first|(simp -implicitDefEqProofs only[*,List.cons_append,List.nil_append,frB,List.length_map,QE,zr,seval,reduceIte,reduceCtorEq])|(apply zk<;>intro hc)|(refine zp ?_)|(refine zd ?_)|(refine cP (kc.out) ?_)|(refine cD (kc.out) ?_)|(refine cF (kc.out) ?_)|fail)
  refine KQ [100002] kd (fun H2 hh=>⟨Oy (by rw[hh 100002 (by simp)];exact QA),.inl (.inl fz_f),trivial⟩) ?_
  by_cases h3:hasK kOb D t=true
  ·rw[if_pos h3]
   rw[h3]
   clear kd kp kb
   replace hz:=hide hz
   replace hrP:=hide hrP
   replace hrD:=hide hrD
   repeat'(first|(simp -implicitDefEqProofs only[*,QE,List.cons_append,List.nil_append,frB,List.length_map,zr,seval,reduceIte,reduceCtorEq])|(apply zk<;>intro hc)|(refine zp ?_)|(refine zd ?_)|fail)
   exact .inl (Vf (D:=D) (P:=P) (z:=z) (v2:=v2) (v3:=v3) (v4:=v4) rfl hz.out rfl (by repeat (first|exact QG rfl|refine QC rfl ?_|refine VE ?_)) rfl rfl rfl rfl rfl)
  rw[if_neg h3]
  rw[show hasK kOb D t=false by simpa using h3]
  have h3':=hide h3
  clear h3
  repeat'(first|(simp -implicitDefEqProofs only[*,QE,List.cons_append,List.nil_append,frB,List.length_map,zr,seval,reduceIte,reduceCtorEq])|(apply zk<;>intro hc)|(refine zp ?_)|(refine zd ?_)|fail)
  refine KQ [100101,100102] kp (fun H2 hh=>⟨Kr (v4:=v4) (v3:=v3) hrP (by rw[hh 100102 (by simp)];exact QA) hz (by rw[hh 100101 (by simp)];exact QA),.inl (.inl fz_f),trivial⟩) ?_
  cases hg:pGet P t with
  | none=>
   rw[JC hrP hg]
   replace hz:=hide hz
   replace hrP:=hide hrP
   replace hrD:=hide hrD
   replace hg:=hide hg
   clear kd kp kb
   repeat'(first|(simp -implicitDefEqProofs only[*,QE,List.cons_append,List.nil_append,frB,List.length_map,zr,seval,reduceIte,reduceCtorEq])|(apply zk<;>intro hc)|(refine zp ?_)|(refine zd ?_)|fail)
   exact .inl (Vf (D:=D) (P:=P) (z:=z) (v2:=v2) (v3:=v3) (v4:=v4) rfl hz.out rfl (by repeat (first|exact QG rfl|refine QC rfl ?_|refine VE ?_)) rfl rfl rfl rfl rfl)
  | some p=>
   obtain⟨g1,g2,g3⟩:=XO hrP hg
   rw[g3]
   have kD:=data_hi D P p t 2 sz fr.toNat b z v1 v2 v3 v4 zs hD hrD (by omega) hrP g1 g2 ⟨by have:=mk2.out rfl;omega,by omega,by have:=hok.p.ok p (List.mem_of_getElem? g1);omega,by omega,by have:=hok.p.ok p (List.mem_of_getElem? g1);omega⟩ hz
   rw[Int.toNat_of_nonneg mf.1]at kD
   replace kD:=hide kD
   generalize Qc P t=i at*
   replace hz:=hide hz
   replace hrP:=hide hrP
   replace hrD:=hide hrD
   replace hg:=hide hg
   replace g1:=hide g1
   clear kd kp kb
   repeat'(first|(simp -implicitDefEqProofs only[*,QE,List.cons_append,List.nil_append,frB,List.length_map,zr,seval,reduceIte,reduceCtorEq])|(apply zk<;>intro hc)|(refine zp ?_)|(refine zd ?_)|fail)
   refine KP rfl kD.out rfl rfl (Jx (by repeat (first|exact QG rfl|refine QC rfl ?_)) rfl rfl rfl rfl rfl rfl) tq_hi hi_R rfl ?_
   rintro r hl' ⟨z',w2,w3,w4,hz',rfl,rfl,hwb⟩
   replace hz':=hide hz'
   generalize Zw D P p t fr b=V at*
   refine zrs ?_
   repeat'(first|(simp -implicitDefEqProofs only[*,XG,QE,zr,seval,reduceIte,reduceCtorEq])|(apply zk<;>intro hc)|(refine zp ?_)|(refine zd ?_)|fail)
   exact .inl (Vf (D:=V.2.1.1) (P:=V.2.1.2) (z:=z') (v2:=w2) (v3:=w3) (v4:=w4) rfl hz'.out rfl (by repeat (first|exact QG rfl|refine QC rfl ?_|refine VE ?_)) rfl rfl rfl rfl rfl)
 ·clear h2
  replace mk2:=hide mk2
  replace hck:=hide hck
  repeat'(first|(simp -implicitDefEqProofs only[*,List.cons_append,List.nil_append,frB,List.length_map,QE,zr,seval,reduceIte,reduceCtorEq])|(apply zk<;>intro hc)|(refine zp ?_)|(refine zd ?_)|(refine cP (kc.out) ?_)|(refine cD (kc.out) ?_)|(refine cF (kc.out) ?_)|fail)
  refine KQ [100002] kd (fun H2 hh=>⟨Oy (by rw[hh 100002 (by simp)];exact QA),.inl (.inl fz_f),trivial⟩) ?_
  by_cases h3:hasK kOb D t=true
  ·rw[if_pos h3]
   rw[h3]
   clear kd kp kb
   replace hz:=hide hz
   replace hrP:=hide hrP
   replace hrD:=hide hrD
   repeat'(first|(simp -implicitDefEqProofs only[*,QE,List.cons_append,List.nil_append,frB,List.length_map,zr,seval,reduceIte,reduceCtorEq])|(apply zk<;>intro hc)|(refine zp ?_)|(refine zd ?_)|fail)
   exact .inl (Vf (D:=D) (P:=P) (z:=z) (v2:=v2) (v3:=v3) (v4:=v4) rfl hz.out rfl (by repeat (first|exact QG rfl|refine QC rfl ?_|refine VE ?_)) rfl rfl rfl rfl rfl)
  rw[if_neg h3]
  rw[show hasK kOb D t=false by simpa using h3]
  have h3':=hide h3
  clear h3
  repeat'(first|(simp -implicitDefEqProofs only[*,QE,List.cons_append,List.nil_append,frB,List.length_map,zr,seval,reduceIte,reduceCtorEq])|(apply zk<;>intro hc)|(refine zp ?_)|(refine zd ?_)|fail)
  refine KQ [100101,100102] kp (fun H2 hh=>⟨Kr (v4:=v4) (v3:=v3) hrP (by rw[hh 100102 (by simp)];exact QA) hz (by rw[hh 100101 (by simp)];exact QA),.inl (.inl fz_f),trivial⟩) ?_
  cases hg:pGet P t with
  | none=>
   rw[JC hrP hg]
   replace hz:=hide hz
   replace hrP:=hide hrP
   replace hrD:=hide hrD
   replace hg:=hide hg
   clear kd kp kb
   repeat'(first|(simp -implicitDefEqProofs only[*,QE,List.cons_append,List.nil_append,frB,List.length_map,zr,seval,reduceIte,reduceCtorEq])|(apply zk<;>intro hc)|(refine zp ?_)|(refine zd ?_)|fail)
   exact .inl (Vf (D:=D) (P:=P) (z:=z) (v2:=v2) (v3:=v3) (v4:=v4) rfl hz.out rfl (by repeat (first|exact QG rfl|refine QC rfl ?_|refine VE ?_)) rfl rfl rfl rfl rfl)
  | some p=>
   obtain⟨g1,g2,g3⟩:=XO hrP hg
   rw[g3]
   obtain⟨c1,c2,c3⟩:=Yy (z:=z) (v:=v4) g1 g2
   have hlt:(((Qc P t:Nat):Int)<(P.length:Int)):=by have:=(List.getElem?_eq_some_iff.1 g1).1;omega
   generalize Qc P t=i at*
   have hy:=Ug hrP (List.mem_of_getElem? g1)
   rw[g2]at hy
   replace hy:=hide hy
   have hZ:=hide hz
   replace hrP:=hide hrP
   replace hrD:=hide hrD
   replace hg:=hide hg
   replace g1:=hide g1
   clear kd kp kb hz
   cases z with
   | true=>
    have h0:p.2.2 = []:=by rw[← hy.out];exact hZ.out rfl
    rw[h0]at c2
    dsimp only
    rw[h0]
    have c2':(rowA (aY true v4) t P)[i*3+2]? = some (.f .nil):=c2
    clear c2
    repeat'(first|(simp -implicitDefEqProofs only[*,QE,zr,seval,reduceIte,reduceCtorEq])|(apply zk<;>intro hc)|(refine zp ?_)|(refine zd ?_)|fail)
    exact .inl (Vf (D:=D) (P:=P) (z:=true) (v2:=v2) (v3:=v3) (v4:=v4) rfl hZ.out rfl (by repeat (first|exact QG rfl|refine QC rfl ?_|refine VE ?_)) rfl rfl rfl rfl rfl)
   | false=>
    have c2':(rowA (aY false v4) t P)[i*3+2]? = some (.sl 100102 v4 1 0 p.2.2.length):=c2
    clear c2
    repeat'(first|(simp -implicitDefEqProofs only[*,QE,zr,seval,reduceIte,reduceCtorEq])|(apply zk<;>intro hc)|(refine zp ?_)|(refine zd ?_)|fail)
    exact .inl (Vf (D:=D) (P:=P) (z:=false) (v2:=v2) (v3:=v3) (v4:=v4) rfl hZ.out rfl (by repeat (first|exact QG rfl|refine QC rfl ?_|refine VE ?_)) rfl rfl rfl rfl rfl)
end Go.Proofs.YtjfchihkhpinmaaGreatDoor
namespace Go.Proofs.YtjfchihkhpinmaaGreatDoor
open Go.RowKit Go.Shelf
set_option linter.unusedVariables false
set_option linter.unusedSimpArgs false
set_option maxRecDepth 100000

theorem QDC {D:List Ob}{P:List Pt}{t:ByteArray}{s:Int} : (beg2 D P t s).2.2.2.2.2.2 = []:=by
 unfold beg2 VB
 repeat' split
 all_goals rfl
theorem whole_nil {D:List Ob}{P:List Pt}{t:ByteArray}{b:List UInt8} : (VB D P t b).2.2.2.2.2.2 = []:=by
 unfold VB
 repeat' split
 all_goals rfl
theorem take_nil {D:List Ob}{P:List Pt}{m:Mg} : (VC D P m).2.2.2.2.2.2 = []:=by
 unfold VC
 split
 ·rfl
 split
 ·rfl
 split
 ·rfl
 split
 ·unfold Xv
  split
  ·exact QDC
  ·split
   ·rfl
   ·exact QDC
 split
 ·rfl
 split
 ·unfold Zw
  split
  ·rfl
  split
  ·split
   ·rfl
   split
   ·rfl
   ·exact whole_nil
  ·rfl
 ·rfl
def rRc (r:Rc):RS:= .agg [.own 2 r.1.length (rowF fOb r.1),.own 3 r.2.length (rowF fPt r.2)]
theorem own_hiq {D:List Ob}{P:List Pt}{t:ByteArray}(r:AV) (hl:List (Nat × Nat × AObj)) (h:r=.agg [.sl 100002 1 2 0 D.length,.sl 100101 1 3 0 P.length]∧hl=hiRc D P t 1 1 1):r.hi=true∧JX hl=true:=by
 obtain⟨rfl,rfl⟩:=h
 refine⟨rfl,?_⟩
 unfold JX hiRc
 simp only[List.all_cons,List.all_nil,Bool.and_true,Bool.and_eq_true]
 exact⟨hi_fs _,hi_rowA (fun _=>rfl) P,hi_fs _⟩
theorem hl_c {H H':Heap}{i v:Nat}{cs cs0:List AV}{l:List (Nat × Nat × AObj)}(h:(H i).2=some (.cells cs0)) (h2:SlotsOk H H' [] cs0 cs) (h3:HlOk H H' [] l):HlOk H H' [] ((i,v,.cells cs)::l):=⟨by rw[if_neg (by simp)];exact⟨cs0,h,h2⟩,h3⟩
theorem Wd {H H':Heap}{nw:List Nat}{b:List UInt8} : SlotsOk H H' nw (frY b) (frY b):=Vs
theorem tl_frY {τ : Turn}{b:List UInt8} : AV.turnL τ (frY b)=frY b:=tl_fs
end Go.Proofs.YtjfchihkhpinmaaGreatDoor
namespace Go.Proofs.YtjfchihkhpinmaaGreatDoor
open Go.RowKit Go.Shelf
set_option linter.unusedVariables false
set_option linter.unusedSimpArgs false
set_option maxRecDepth 100000

theorem ret_vvv {x y z:FV}{H:Heap} : Rets [.c (.v x),.c (.v y),.c (.v z)] (.tup [.f x,.f y,.f z]) H:=⟨[_,_,_],rfl,⟨rfl,rfl,rfl,rfl⟩,List.nodup_nil⟩
end Go.Proofs.YtjfchihkhpinmaaGreatDoor
namespace Go.Proofs.YtjfchihkhpinmaaGreatDoor
open Go.RowKit Go.Shelf
set_option linter.unusedVariables false
set_option linter.unusedSimpArgs false
set_option maxRecDepth 100000

theorem Ze {α : Type}(p : α→Bool):∀ l:List α,(l.dropWhile p).isEmpty=l.all p
 | []=>rfl
 | a::l=>by
  cases h:p a
  ·simp [List.dropWhile,h]
  ·simp [List.dropWhile,h,Ze p l]
theorem trimS_nil (l cs:List UInt8) (h:l.all (cs.contains ·)=true):(Lib.trimS l cs).isEmpty=true:=by
 unfold Lib.trimS Lib.trimLeftS Lib.trimRightS
 rw[Ze]
 have h2:(l.reverse.dropWhile (cs.contains ·)).isEmpty=true:=by rw[Ze,List.all_reverse];exact h
 rw[List.isEmpty_iff.1 h2];rfl
theorem QBQ (n:Int):∀ s,s≤16→∀ i,16 - s≤i→∀ x,(YX n s).1[i]? = some x→hexS.contains x=true
 | 0,_,i,h,x,hx=>by
  have:=(List.getElem?_eq_some_iff.1 hx).1
  rw[YI]at this
  omega
 | s+1,hs,i,h,x,hx=>by
  have hl:=(List.getElem?_eq_some_iff.1 hx).1
  rw[YI]at hl
  rw[YX]at hx
  dsimp only at hx
  by_cases e:15 - s=i
  ·rw[e,List.getElem?_set_self (by rw[YI];exact hl)]at hx
   obtain rfl:=Option.some.inj hx
   have:=hex_at (and15 (YX n s).2)
   exact List.contains_iff_mem.2 (show _∈hexS from List.mem_of_getElem? this)
  ·rw[List.getElem?_set_ne e]at hx
   exact QBQ n s (by omega) i (by omega) x hx
theorem Xz {b:List UInt8} : XZ (digV b)=true:=by
 have hl:=YI (digN b) 16
 have key:=QBQ (digN b) 16 (Nat.le_refl _)
 unfold XZ digV
 generalize YX (digN b) 16=L at*
 rw[Bool.and_eq_true]
 refine⟨?_,?_⟩
 ·simp [ByteArray.size,hl]
 ·refine trimS_nil _ _ (List.all_eq_true.2 fun x hx=> ?_)
  have hx':x∈L.1:=by simpa using hx
  obtain⟨i,hi⟩:=List.mem_iff_getElem?.1 hx'
  exact key i (by omega) x hi
structure RcS (r:Rc):Prop where
 l:(r.1.length:Int)≤9223372036854775807∧(r.2.length:Int)≤9223372036854775807
 b:(∀ x∈r.1,(x.2.length:Int)≤9223372036854775807)∧∀ x∈r.2,(x.2.2.length:Int)≤9223372036854775807
end Go.Proofs.YtjfchihkhpinmaaGreatDoor
namespace Go.Proofs.YtjfchihkhpinmaaGreatDoor
open Go.RowKit Go.Shelf
set_option linter.unusedVariables false
set_option linter.unusedSimpArgs false

structure Mid (r:Rc) (t:ByteArray) (L:Int) (f:Nat):Prop where
 ok:ROk r
 no:hasK kOb r.1 t=false
 part:∃ p,pGet r.2 t=some p∧p.2.1=L∧p.2.2.length=f
theorem QCj {P:List Pt}(h:QZ kPt P){t:ByteArray}{s:Int}{b:List UInt8}(hp:(t,s,b)∈P):pGet P t=some (t,s,b):=pGet_of h hp
theorem QDi {r:Rc}{t:ByteArray}{L:Nat}(h0:(YY r (1,t,0,L,[])).1=0) (h5:(YY r (1,t,0,L,[])).2.2.1≠5) :
  (YY r (1,t,0,L,[])).2.2.1=4∧(YY r (1,t,0,L,[])).2.2.2.2.1=0∨
  ∃ n:Nat,(YY r (1,t,0,L,[])).2.2.1=3∧(YY r (1,t,0,L,[])).2.2.2.2.1=n∧n<L∧Mid (YY r (1,t,0,L,[])).2.1 t L n:=by
 obtain⟨hr,e,ht⟩:=KE h0
 obtain⟨D,P⟩:=r
 dsimp only at e
 generalize hV:YY (D,P) (1,t,0,L,[])=V at*
 unfold VC at e
 dsimp only at e
 split at e
 ·rw[e]at h0;rename_i h;exact absurd h0 h
 split at e
 ·rw[e]at h0;cases h0
 split at e
 ·rw[e];exact .inl ⟨rfl,rfl⟩
 rename_i hno
 have hno':hasK kOb D t=false:=by simpa using hno
 rw[if_pos rfl]at e
 have hw:∀ Q b,V=VB D Q t b→V.2.2.1=4∧V.2.2.2.2.1=0:=fun Q b hq=>by
  rw[hq]at h0 h5 ⊢
  unfold VB at h0 h5 ⊢
  by_cases hd:digV b=t
  ·rw[if_pos hd]at h0 h5 ⊢
   by_cases hl:4000≤D.length
   ·rw[if_pos hl]at h0;cases h0
   ·rw[if_neg hl];exact⟨rfl,rfl⟩
  ·rw[if_neg hd]at h5;exact absurd rfl h5
 have h2:∀ Q,V=beg2 D Q t L→V.2.2.1=4∧V.2.2.2.2.1=0∨∃ n:Nat,V.2.2.1=3∧V.2.2.2.2.1=n∧n<L∧Mid V.2.1 t L n:=fun Q hq=>by
  have hq':=hq
  unfold beg2 at hq'
  split at hq'
  ·exact .inl (hw _ _ hq')
  split at hq'
  ·rw[hq']at h0;cases h0
  split at hq'
  ·rw[hq']at h0;cases h0
  rename_i hs _ _
  rw[hq']at ht ⊢
  exact .inr ⟨0,rfl,rfl,by omega,ht.ok,hno',_,QCj ht.ok.p.rise (Km.2 (.inl rfl)),rfl,rfl⟩
 unfold Xv at e
 split at e
 ·exact h2 _ e
 rename_i p hp
 split at e
 ·rename_i hs
  obtain⟨g1,g2,g3⟩:=XO hr.p.rise hp
  have:=hr.p.ok p (List.mem_of_getElem? g1)
  rw[e]at ht ⊢
  exact .inr ⟨p.2.2.length,rfl,rfl,by omega,ht.ok,hno',p,hp,hs,rfl⟩
 ·exact h2 _ e
theorem next_take {r:Rc}{t:ByteArray}{L:Nat}{f:Nat}{c:List UInt8}(h:Mid r t L f) (hd:XZ t=true) (hL:L≤100000) (hc0:0<c.length) (hc1:f+c.length≤L) (hc2:c.length≤65536) :
  (YY r (2,t,f,0,c)).1=16∨(YY r (2,t,f,0,c)).1=0∧
   (f+c.length<L∧(YY r (2,t,f,0,c)).2.2.1=3∧Mid (YY r (2,t,f,0,c)).2.1 t L (f+c.length)∨
    f+c.length=L∧((YY r (2,t,f,0,c)).2.2.1=4∨(YY r (2,t,f,0,c)).2.2.1=5)):=by
 obtain⟨hok,hno,p,hp,hs,hl⟩:=h
 obtain⟨D,P⟩:=r
 dsimp only at hno hp
 obtain⟨g1,g2,g3⟩:=XO hok.p.rise hp
 have hck:ckMg (2,t,(f:Int),0,c) c.length=0:=by
  unfold ckMg
  dsimp only
  rw[if_neg (by decide),if_neg (by rw[hd];decide),if_neg (by simp only[inRg,Bool.not_eq_false,Bool.and_eq_true,decide_eq_true_eq];omega),if_neg (by omega),if_neg (by simp),if_neg (by simp),if_neg (by
   have:decide (0<(c.length:Int))=true:=decide_eq_true (by omega)
   rw[this];simp)]
 have e1:VC D P (2,t,(f:Int),0,c)=Zw D P p t f c:=by
  unfold VC
  dsimp only
  rw[if_neg (fun h=>h hck),if_neg (by decide),if_neg (by rw[hno];decide),if_neg (by decide),hp]
  dsimp only
  rw[if_pos rfl]
 have e2:Zw D P p t f c=if ((p.2.2++c).length:Int)<p.2.1 then(0,(D,P.set (Qc P t) (t,p.2.1,p.2.2++c)),(3,t,((p.2.2++c).length:Int),0,[]))else VB D (delP P t) t (p.2.2++c):=by
  unfold Zw
  have hmin:min c.length (p.2.2.length - (f:Int).toNat)=0:=by omega
  rw[hmin,if_neg (by omega),if_pos (by rw[List.take_zero,List.take_zero]),if_neg (by omega),List.drop_zero]
 have e3:YY (D,P) (2,t,f,0,c)=if (VC D P (2,t,(f:Int),0,c)).1≠0 then((VC D P (2,t,(f:Int),0,c)).1,([],[]),mg0)else VC D P (2,t,(f:Int),0,c):=by
  unfold YY
  rw[if_neg (fun h=>h (WS.2 hok))]
 rw[e1,e2]at e3
 have hlen:(p.2.2++c).length=f+c.length:=by rw[List.length_append,hl]
 rw[hlen]at e3
 have hR:=fun h0=>(KE (r:=(D,P)) (m:=(2,t,(f:Int),0,c)) h0).2.2.ok
 generalize hV:YY (D,P) (2,t,(f:Int),0,c)=V at*
 by_cases hlt:((f+c.length:Nat):Int)<p.2.1
 ·rw[if_pos hlt,if_neg (fun h=>h rfl)]at e3
  right
  have hR':=hR (by rw[e3])
  rw[e3]at hR' ⊢
  refine⟨rfl,.inl ⟨by omega,rfl,hR',hno,(t,p.2.1,p.2.2++c),QCj hR'.p.rise (List.mem_iff_getElem?.2 ⟨Qc P t,?_⟩),hs,hlen⟩⟩
  exact List.getElem?_set_self (List.getElem?_eq_some_iff.1 g1).1
 ·rw[if_neg hlt]at e3
  have hL2:f+c.length=L:=by omega
  unfold VB at e3
  split at e3
  ·split at e3
   ·rw[if_pos (show(16:Int)≠0 by decide)]at e3
    exact .inl (by rw[e3])
   ·rw[if_neg (fun h=>h rfl)]at e3
    exact .inr ⟨by rw[e3],.inr ⟨hL2,.inl (by rw[e3])⟩⟩
  ·rw[if_neg (fun h=>h rfl)]at e3
   exact .inr ⟨by rw[e3],.inr ⟨hL2,.inr (by rw[e3])⟩⟩
end Go.Proofs.YtjfchihkhpinmaaGreatDoor
