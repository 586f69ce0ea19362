/-
  WireTakesAgain and WireTakesStayRight. No statement of the seat is proved here; no conditions.
-/
import Derived.Test.YtjacnfjlocajoaaDoorWrS
import Derived.Test.YtjacnfjlocajoaaDoorAwk8
import Derived.Test.YtjacnfjlocajoaaDoorRw5
namespace Go.Proofs.YtjacnfjlocajoaaDoor
open Go.RowKit Go.Shelf
set_option linter.unusedVariables false
set_option linter.unusedSimpArgs false
set_option maxRecDepth 100000

structure RcS (r : Rc) : Prop where
 l : (r.1.length : Int) ≤ 9223372036854775807 ∧ (r.2.length : Int) ≤ 9223372036854775807
 b : (∀ x ∈ r.1,(x.2.length : Int) ≤ 9223372036854775807) ∧ ∀ x ∈ r.2,(x.2.2.length : Int) ≤ 9223372036854775807
theorem ROk.sizes {r : Rc} (h : ROk r) : RcS r := ⟨⟨by have := h.d.len;omega,by have := h.p.len;omega⟩,fun x hx => by have := h.d.ok x hx;omega,fun x hx => by have := h.p.ok x hx;omega⟩
theorem rcS_nil : RcS ([],[]) := ⟨⟨by decide,by decide⟩,fun x hx => by simp at hx,fun x hx => by simp at hx⟩
end Go.Proofs.YtjacnfjlocajoaaDoor
namespace Go.Proofs.YtjacnfjlocajoaaDoor
open Go.RowKit Go.Shelf
set_option linter.unusedVariables false
set_option linter.unusedSimpArgs false
set_option maxRecDepth 100000

theorem ckMg_bounds {m : Mg} {many : Int} (h : ckMg m many = 0) : m.2.2.1 ≤ 2000000 ∧ many ≤ 65536 := by
 unfold ckMg at h
 split at h
 ·cases h
 split at h
 ·cases h
 split at h
 ·cases h
 rename_i h3
 split at h
 ·cases h
 rename_i h4
 simp only [Bool.not_eq_false,Bool.and_eq_true] at h3
 exact ⟨(rg_iff.1 h3.1).2,by omega⟩
set_option maxHeartbeats 8000000 in
theorem take_z (D : List Ob) (P : List Pt) (m : Mg) (h : ROk (D,P)) (hc : ckMg m m.2.2.2.2.length = 0) : FRet Tryd.prog 35 [aRc (D,P),aMg m] (rRM (takeR D P m)) := by
 have hk := h.tk
 obtain ⟨hD,hrD,hP,hrP⟩ := hk
 have hpo := h.p.ok
 have kd := doneOf_f (D,P) m.2.1 (by dsimp only;omega)
 have kp := partOf_f (D,P) m.2.1 (by dsimp only;omega)
 have kb := begin_z D P m h.tk
 have kt := fun (p : Pt) (hp : p ∈ P) (mk sz : Int) (t : ByteArray) (f : Nat) (b : List UInt8) (hb : b.length ≤ 200000) (hf : f ≤ 2000000) => data_z D P p mk sz t f b h.tk (by have := hpo p hp;omega) hb hf (by have := hpo p hp;omega)
 have hp1 := ckMg_parts hc
 have hp2 := ckMg_bounds hc
 obtain ⟨mk,t,fr,sz,b⟩ := m
 dsimp only at kd kp kb hp1 hp2 ⊢
 clear h hpo hc
 have hbl : b.length ≤ 200000 := by have := hp2.2;omega
 obtain ⟨f,rfl⟩ := Int.eq_ofNat_of_zero_le hp1.2.1
 have hfl : f ≤ 2000000 := by have := hp2.1;omega
 clear hp1 hp2
 replace kt := hide kt
 have ha := part_ix hrP t
 have hb := done_ix hrD t
 replace hrD := hide hrD
 replace hrP := hide hrP
 unfold takeR
 dsimp only
 refine FCall.frz (FCall.of_ax low_ref8_take ?_)
 dsimp only [l_ref8_take,aMg,fMg,List.map] at kb ⊢
 refine srun_sound 300 _ _ _ _ ?_
 by_cases c1 : mk ≠ 1 ∧ mk ≠ 2 ∧ mk ≠ 6
 ·rw [if_pos c1]
  have d1 := dcF c1.1
  have d2 := dcF c1.2.1
  have d3 := dcF c1.2.2
  clear kd kp kb kt ha hb
  dsimp only [aRc]
  repeat' (first
   | (simp -implicitDefEqProofs only [*,zr,Nat.reduceAdd,Nat.reduceSub,Nat.reduceMul,Nat.reduceLT,Nat.reduceLeDiff,Nat.reduceEqDiff,Nat.reduceBEq,reduceIte,reduceCtorEq,Int.reduceLE,Int.reduceLT,Int.reduceToNat,Int.reduceEq,Int.reduceNe])
   | ((first|apply zk0|apply zk1|apply zk2|apply zk3|apply zk4|apply zk5|apply zk6|apply zk7|apply zk8|apply zk9) <;> intro hc)
   |(refine callP0 rfl ?_)
   |(refine callD0 rfl ?_)
   | fail)
  exact z_ff
 rw [if_neg c1]
 have c2 : mk = 1 ∨ mk = 2 ∨ mk = 6 := by omega
 clear c1
 rcases hb with ⟨b1,b2,b3⟩ | ⟨i,o,b1,b2,b3,b4,b5⟩
 case inr =>
  rw [b2,if_pos rfl]
  rw [b3] at kd
  have i1 : decide ((i : Int) ≥ 0) = true := by simp
  have i1' : decide (0 ≤ (i : Int)) = true := by simp
  clear kp kb kt ha b1 b2 b3 b4 b5
  dsimp only [aRc] at kd ⊢
  rcases c2 with rfl | rfl | rfl
  ·repeat' (first
    | (simp -implicitDefEqProofs only [*,zr,Nat.reduceAdd,Nat.reduceSub,Nat.reduceMul,Nat.reduceLT,Nat.reduceLeDiff,Nat.reduceEqDiff,Nat.reduceBEq,reduceIte,reduceCtorEq,Int.reduceLE,Int.reduceLT,Int.reduceToNat,Int.reduceEq,Int.reduceNe])
    | ((first|apply zk0|apply zk1|apply zk2|apply zk3|apply zk4|apply zk5|apply zk6|apply zk7|apply zk8|apply zk9) <;> intro hc)
    |(refine callP0 rfl ?_)
    |(refine callD0 rfl ?_)
    |(refine cP (kd) ?_)
    |(refine cD (kd) ?_)
    |(refine cF (kd) ?_)
    | fail)
   exact z_ff
  ·repeat' (first
    | (simp -implicitDefEqProofs only [*,zr,Nat.reduceAdd,Nat.reduceSub,Nat.reduceMul,Nat.reduceLT,Nat.reduceLeDiff,Nat.reduceEqDiff,Nat.reduceBEq,reduceIte,reduceCtorEq,Int.reduceLE,Int.reduceLT,Int.reduceToNat,Int.reduceEq,Int.reduceNe])
    | ((first|apply zk0|apply zk1|apply zk2|apply zk3|apply zk4|apply zk5|apply zk6|apply zk7|apply zk8|apply zk9) <;> intro hc)
    |(refine callP0 rfl ?_)
    |(refine callD0 rfl ?_)
    |(refine cP (kd) ?_)
    |(refine cD (kd) ?_)
    |(refine cF (kd) ?_)
    | fail)
   exact z_ff
  ·repeat' (first
    | (simp -implicitDefEqProofs only [*,zr,Nat.reduceAdd,Nat.reduceSub,Nat.reduceMul,Nat.reduceLT,Nat.reduceLeDiff,Nat.reduceEqDiff,Nat.reduceBEq,reduceIte,reduceCtorEq,Int.reduceLE,Int.reduceLT,Int.reduceToNat,Int.reduceEq,Int.reduceNe])
    | ((first|apply zk0|apply zk1|apply zk2|apply zk3|apply zk4|apply zk5|apply zk6|apply zk7|apply zk8|apply zk9) <;> intro hc)
    |(refine callP0 rfl ?_)
    |(refine callD0 rfl ?_)
    |(refine cP (kd) ?_)
    |(refine cD (kd) ?_)
    |(refine cF (kd) ?_)
    | fail)
   exact z_ff
 rw [b2,if_neg (show ¬ (false = true) from fun h => by cases h)]
 rw [b3] at kd
 have i1 : decide ((-1 : Int) ≥ 0) = false := rfl
 clear b1 b2 b3
 by_cases c3 : mk = 1
 ·rw [if_pos c3]
  subst c3
  clear kp kt ha
  generalize beginR D P t sz = V at *
  obtain ⟨q,⟨E,F⟩,a1,a2,a3,a4,a5⟩ := V
  dsimp only [rRM,fMg,List.map,aRc,rInt] at kd kb ⊢
  repeat' (first
   | (simp -implicitDefEqProofs only [*,zr,Nat.reduceAdd,Nat.reduceSub,Nat.reduceMul,Nat.reduceLT,Nat.reduceLeDiff,Nat.reduceEqDiff,Nat.reduceBEq,reduceIte,reduceCtorEq,Int.reduceLE,Int.reduceLT,Int.reduceToNat,Int.reduceEq,Int.reduceNe])
   | ((first|apply zk0|apply zk1|apply zk2|apply zk3|apply zk4|apply zk5|apply zk6|apply zk7|apply zk8|apply zk9) <;> intro hc)
   |(refine callP0 rfl ?_)
   |(refine callD0 rfl ?_)
   |(refine cP (kd) ?_)
   |(refine cD (kd) ?_)
   |(refine cF (kd) ?_)
   |(refine cP (kb) ?_)
   |(refine cD (kb) ?_)
   |(refine cF (kb) ?_)
   | fail)
  exact z_vv
 rw [if_neg c3]
 have d1 := dcF c3
 clear kb
 rcases ha with ⟨e1,e2⟩ | ⟨i,p,e1,e2,e3,e4⟩
 ·rw [e1]
  rw [e2] at kp
  dsimp only
  have i2 : decide ((-1 : Int) < 0) = true := rfl
  clear kt e1 e2
  dsimp only [aRc] at kd kp ⊢
  have c2' : mk = 2 ∨ mk = 6 := c2.resolve_left c3
  clear c2 c3
  rcases c2' with rfl | rfl
  ·repeat' (first
    | (simp -implicitDefEqProofs only [*,zr,Nat.reduceAdd,Nat.reduceSub,Nat.reduceMul,Nat.reduceLT,Nat.reduceLeDiff,Nat.reduceEqDiff,Nat.reduceBEq,reduceIte,reduceCtorEq,Int.reduceLE,Int.reduceLT,Int.reduceToNat,Int.reduceEq,Int.reduceNe])
    | ((first|apply zk0|apply zk1|apply zk2|apply zk3|apply zk4|apply zk5|apply zk6|apply zk7|apply zk8|apply zk9) <;> intro hc)
    |(refine callP0 rfl ?_)
    |(refine callD0 rfl ?_)
    |(refine cP (kd) ?_)
    |(refine cD (kd) ?_)
    |(refine cF (kd) ?_)
    |(refine cP (kp) ?_)
    |(refine cD (kp) ?_)
    |(refine cF (kp) ?_)
    | fail)
   exact z_ff
  ·repeat' (first
    | (simp -implicitDefEqProofs only [*,zr,Nat.reduceAdd,Nat.reduceSub,Nat.reduceMul,Nat.reduceLT,Nat.reduceLeDiff,Nat.reduceEqDiff,Nat.reduceBEq,reduceIte,reduceCtorEq,Int.reduceLE,Int.reduceLT,Int.reduceToNat,Int.reduceEq,Int.reduceNe])
    | ((first|apply zk0|apply zk1|apply zk2|apply zk3|apply zk4|apply zk5|apply zk6|apply zk7|apply zk8|apply zk9) <;> intro hc)
    |(refine callP0 rfl ?_)
    |(refine callD0 rfl ?_)
    |(refine cP (kd) ?_)
    |(refine cD (kd) ?_)
    |(refine cF (kd) ?_)
    |(refine cP (kp) ?_)
    |(refine cD (kp) ?_)
    |(refine cF (kp) ?_)
    | fail)
   exact z_ff
 rw [e1]
 rw [e2] at kp
 dsimp only
 have i2 : decide ((i : Int) < 0) = false := by simp
 have i3 : ((i : Int) < (P.length : Int)) := by exact Int.ofNat_lt.2 (List.getElem?_eq_some_iff.1 e3).1
 have hmem := List.mem_of_getElem? e3
 by_cases c4 : mk = 6
 ·rw [if_pos c4]
  subst c4
  obtain ⟨pd,ps,pb⟩ := p
  clear kt e1 e2 hmem e4
  dsimp only [aRc,frPts] at kd kp ⊢
  repeat' (first
   | (simp -implicitDefEqProofs only [*,List.getElem?_map,Option.map_some,List.length_map,fPt,frB,zr,Nat.reduceAdd,Nat.reduceSub,Nat.reduceMul,Nat.reduceLT,Nat.reduceLeDiff,Nat.reduceEqDiff,Nat.reduceBEq,reduceIte,reduceCtorEq,Int.reduceLE,Int.reduceLT,Int.reduceToNat,Int.reduceEq,Int.reduceNe])
   | ((first|apply zk0|apply zk1|apply zk2|apply zk3|apply zk4|apply zk5|apply zk6|apply zk7|apply zk8|apply zk9) <;> intro hc)
   |(refine callP0 rfl ?_)
   |(refine callD0 rfl ?_)
   |(refine cP (kd) ?_)
   |(refine cD (kd) ?_)
   |(refine cF (kd) ?_)
   |(refine cP (kp) ?_)
   |(refine cD (kp) ?_)
   |(refine cF (kp) ?_)
   | fail)
  exact z_ff (P := P)
 rw [if_neg c4]
 have c5 : mk = 2 := by omega
 subst c5
 have kw := kt.out p hmem 2 sz t f b hbl hfl
 generalize dataR D P p f b = V at *
 obtain ⟨q,⟨E,F⟩,a1,a2,a3,a4,a5⟩ := V
 obtain ⟨pd,ps,pb⟩ := p
 clear kt e1 e2 hmem e4
 dsimp only [rRM,fMg,fPt,List.map,aRc,rInt,frPts,aMg,frB] at kd kp kw ⊢
 repeat' (first
  | (simp -implicitDefEqProofs only [*,List.getElem?_map,Option.map_some,List.length_map,fPt,frB,zr,Nat.reduceAdd,Nat.reduceSub,Nat.reduceMul,Nat.reduceLT,Nat.reduceLeDiff,Nat.reduceEqDiff,Nat.reduceBEq,reduceIte,reduceCtorEq,Int.reduceLE,Int.reduceLT,Int.reduceToNat,Int.reduceEq,Int.reduceNe])
  | ((first|apply zk0|apply zk1|apply zk2|apply zk3|apply zk4|apply zk5|apply zk6|apply zk7|apply zk8|apply zk9) <;> intro hc)
  |(refine callP0 rfl ?_)
  |(refine callD0 rfl ?_)
  |(refine cP (kd) ?_)
  |(refine cD (kd) ?_)
  |(refine cF (kd) ?_)
  |(refine cP (kp) ?_)
  |(refine cD (kp) ?_)
  |(refine cF (kp) ?_)
  |(refine cP (kw) ?_)
  |(refine cD (kw) ?_)
  |(refine cF (kw) ?_)
  | fail)
 exact z_vv (P := F)
end Go.Proofs.YtjacnfjlocajoaaDoor
namespace Go.Proofs.YtjacnfjlocajoaaDoor
open Go.RowKit Go.Shelf
set_option linter.unusedVariables false
set_option linter.unusedSimpArgs false

structure Mid (r : Rc) (t : ByteArray) (L : Int) (f : Nat) : Prop where
 ok : ROk r
 no : hasK kOb r.1 t = false
 part : ∃ p,pGet r.2 t = some p ∧ p.2.1 = L ∧ p.2.2.length = f
theorem pGet_mem {P : List Pt} (h : Rising kPt P) {t : ByteArray} {s : Int} {b : List UInt8} (hp : (t,s,b) ∈ P) : pGet P t = some (t,s,b) := pGet_of h hp
theorem first_take {r : Rc} {t : ByteArray} {L : Nat} (h0 : (TakeV r (1,t,0,L,[])).1 = 0) (h5 : (TakeV r (1,t,0,L,[])).2.2.1 ≠ 5) :
  (TakeV r (1,t,0,L,[])).2.2.1 = 4 ∧ (TakeV r (1,t,0,L,[])).2.2.2.2.1 = 0 ∨
  ∃ n : Nat,(TakeV r (1,t,0,L,[])).2.2.1 = 3 ∧ (TakeV r (1,t,0,L,[])).2.2.2.2.1 = n ∧ n < L ∧ Mid (TakeV r (1,t,0,L,[])).2.1 t L n := by
 obtain ⟨hr,e,ht⟩ := Take_right h0
 obtain ⟨D,P⟩ := r
 dsimp only at e
 generalize hV : TakeV (D,P) (1,t,0,L,[]) = V at *
 unfold takeV at e
 dsimp only at e
 split at e
 ·rw [e] at h0;rename_i h;exact absurd h0 h
 split at e
 ·rw [e] at h0;cases h0
 split at e
 ·rw [e];exact .inl ⟨rfl,rfl⟩
 rename_i hno
 have hno' : hasK kOb D t = false := by simpa using hno
 rw [if_pos rfl] at e
 have hw : ∀ Q b,V = wholeV D Q t b → V.2.2.1 = 4 ∧ V.2.2.2.2.1 = 0 := fun Q b hq => by
  rw [hq] at h0 h5 ⊢
  unfold wholeV at h0 h5 ⊢
  by_cases hd : digV b = t
  ·rw [if_pos hd] at h0 h5 ⊢
   by_cases hl : 4000 ≤ D.length
   ·rw [if_pos hl] at h0;cases h0
   ·rw [if_neg hl];exact ⟨rfl,rfl⟩
  ·rw [if_neg hd] at h5;exact absurd rfl h5
 have h2 : ∀ Q,V = beg2 D Q t L → V.2.2.1 = 4 ∧ V.2.2.2.2.1 = 0 ∨ ∃ n : Nat,V.2.2.1 = 3 ∧ V.2.2.2.2.1 = n ∧ n < L ∧ Mid V.2.1 t L n := fun Q hq => by
  have hq' := hq
  unfold beg2 at hq'
  split at hq'
  ·exact .inl (hw _ _ hq')
  split at hq'
  ·rw [hq'] at h0;cases h0
  split at hq'
  ·rw [hq'] at h0;cases h0
  rename_i hs _ _
  rw [hq'] at ht ⊢
  exact .inr ⟨0,rfl,rfl,by omega,ht.ok,hno',_,pGet_mem ht.ok.p.rise (mem_insP.2 (.inl rfl)),rfl,rfl⟩
 unfold beginV at e
 split at e
 ·exact h2 _ e
 rename_i p hp
 split at e
 ·rename_i hs
  obtain ⟨g1,g2,g3⟩ := pGet_some hr.p.rise hp
  have := hr.p.ok p (List.mem_of_getElem? g1)
  rw [e] at ht ⊢
  exact .inr ⟨p.2.2.length,rfl,rfl,by omega,ht.ok,hno',p,hp,hs,rfl⟩
 ·exact h2 _ e
theorem next_take {r : Rc} {t : ByteArray} {L : Nat} {f : Nat} {c : List UInt8} (h : Mid r t L f) (hd : isDig t = true) (hL : L ≤ 100000) (hc0 : 0 < c.length) (hc1 : f + c.length ≤ L) (hc2 : c.length ≤ 65536) :
  (TakeV r (2,t,f,0,c)).1 = 16 ∨ (TakeV r (2,t,f,0,c)).1 = 0 ∧
   (f + c.length < L ∧ (TakeV r (2,t,f,0,c)).2.2.1 = 3 ∧ Mid (TakeV r (2,t,f,0,c)).2.1 t L (f + c.length) ∨
    f + c.length = L ∧ ((TakeV r (2,t,f,0,c)).2.2.1 = 4 ∨ (TakeV r (2,t,f,0,c)).2.2.1 = 5)) := by
 obtain ⟨hok,hno,p,hp,hs,hl⟩ := h
 obtain ⟨D,P⟩ := r
 dsimp only at hno hp
 obtain ⟨g1,g2,g3⟩ := pGet_some hok.p.rise hp
 have hck : ckMg (2,t,(f : Int),0,c) c.length = 0 := by
  unfold ckMg
  dsimp only
  rw [if_neg (by decide),if_neg (by rw [hd];decide),if_neg (by simp only [inRg,Bool.not_eq_false,Bool.and_eq_true,decide_eq_true_eq];omega),if_neg (by omega),if_neg (by simp),if_neg (by simp),if_neg (by
   have : decide (0 < (c.length : Int)) = true := decide_eq_true (by omega)
   rw [this];simp)]
 have e1 : takeV D P (2,t,(f : Int),0,c) = dataV D P p t f c := by
  unfold takeV
  dsimp only
  rw [if_neg (fun h => h hck),if_neg (by decide),if_neg (by rw [hno];decide),if_neg (by decide),hp]
  dsimp only
  rw [if_pos rfl]
 have e2 : dataV D P p t f c = if ((p.2.2 ++ c).length : Int) < p.2.1 then (0,(D,P.set (ptIdx P t) (t,p.2.1,p.2.2 ++ c)),(3,t,((p.2.2 ++ c).length : Int),0,[])) else wholeV D (delP P t) t (p.2.2 ++ c) := by
  unfold dataV
  have hmin : min c.length (p.2.2.length - (f : Int).toNat) = 0 := by omega
  rw [hmin,if_neg (by omega),if_pos (by rw [List.take_zero,List.take_zero]),if_neg (by omega),List.drop_zero]
 have e3 : TakeV (D,P) (2,t,f,0,c) = if (takeV D P (2,t,(f : Int),0,c)).1 ≠ 0 then ((takeV D P (2,t,(f : Int),0,c)).1,([],[]),mg0) else takeV D P (2,t,(f : Int),0,c) := by
  unfold TakeV
  rw [if_neg (fun h => h (ckRc_iff.2 hok))]
 rw [e1,e2] at e3
 have hlen : (p.2.2 ++ c).length = f + c.length := by rw [List.length_append,hl]
 rw [hlen] at e3
 have hR := fun h0 => (Take_right (r := (D,P)) (m := (2,t,(f : Int),0,c)) h0).2.2.ok
 generalize hV : TakeV (D,P) (2,t,(f : Int),0,c) = V at *
 by_cases hlt : ((f + c.length : Nat) : Int) < p.2.1
 ·rw [if_pos hlt,if_neg (fun h => h rfl)] at e3
  right
  have hR' := hR (by rw [e3])
  rw [e3] at hR' ⊢
  refine ⟨rfl,.inl ⟨by omega,rfl,hR',hno,(t,p.2.1,p.2.2 ++ c),pGet_mem hR'.p.rise (List.mem_iff_getElem?.2 ⟨ptIdx P t,?_⟩),hs,hlen⟩⟩
  exact List.getElem?_set_self (List.getElem?_eq_some_iff.1 g1).1
 ·rw [if_neg hlt] at e3
  have hL2 : f + c.length = L := by omega
  unfold wholeV at e3
  split at e3
  ·split at e3
   ·rw [if_pos (show (16 : Int) ≠ 0 by decide)] at e3
    exact .inl (by rw [e3])
   ·rw [if_neg (fun h => h rfl)] at e3
    exact .inr ⟨by rw [e3],.inr ⟨hL2,.inl (by rw [e3])⟩⟩
  ·rw [if_neg (fun h => h rfl)] at e3
   exact .inr ⟨by rw [e3],.inr ⟨hL2,.inr (by rw [e3])⟩⟩
end Go.Proofs.YtjacnfjlocajoaaDoor
