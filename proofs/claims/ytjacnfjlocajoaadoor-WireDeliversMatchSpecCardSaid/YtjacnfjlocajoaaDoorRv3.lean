/-
  The document's session. No statement of the seat is proved here; no conditions.
-/
import Derived.Test.YtjacnfjlocajoaaDoorRv2
namespace Go.Proofs.YtjacnfjlocajoaaDoor
open Go.RowKit Go.Shelf
set_option linter.unusedVariables false
set_option linter.unusedSimpArgs false
set_option maxRecDepth 100000

def rSX (X : SX) : List RS := [.agg [.v (frObs X.1.1),.v (frPts X.1.2)],rInt X.2.1,.c (.v (.bool X.2.2.1)),rInt X.2.2.2]
theorem ret_sx {H : Heap} {X : SX} {D : List Ob} {P : List Pt} {se q : Int} {bo : Bool} (h : X = ((D,P),se,bo,q)) : Rets (rSX X) (.tup [.agg [.f (frObs D),.f (frPts P)],.f (.int .i64 se),.f (.bool bo),.f (.int .i64 q)]) H := by
 subst h
 exact ⟨[.agg [.f (frObs D),.f (frPts P)],.f (.int .i64 se),.f (.bool bo),.f (.int .i64 q)],rfl,⟨⟨rfl,rfl,rfl⟩,rfl,rfl,rfl,rfl⟩,List.nodup_nil⟩
structure SesAt (t : ByteArray) (b : List UInt8) (most : Nat) (through : Int) (X : SX) (k : Nat) (a : Mg) (q : Int) (r : Rc) (sent n : Int) : Prop where
 eq : sessR t b most k (through - n) a q r sent = X
 ok : q = 0 → HOk t b a r ∧ (a.1 = 3 → hmeas b a + 1 < k)
 kp : 0 < k ∧ k ≤ 100002
 se : 0 ≤ sent ∧ sent + (k : Int) * 65536 ≤ 100000000000
 nb : 1 ≤ n ∧ n + (k : Int) ≤ 200010
theorem sessR_end {t : ByteArray} {b : List UInt8} {most k : Nat} {left : Int} {a : Mg} {q : Int} {r : Rc} {s : Int} (h : q ≠ 0 ∨ a.1 ≠ 3) : sessR t b most (k + 1) left a q r s = (r,s,false,q) := by rw [sessR,if_pos h]
theorem sessR_br {t : ByteArray} {b : List UInt8} {most k : Nat} {left : Int} {a : Mg} {r : Rc} {s : Int} {n : Nat} (h3 : a.1 = 3) (hn : a.2.2.1 = n) (hl : left = 0) : sessR t b most (k + 1) left a 0 r s = (r,s + (dMsg t b n most).2.2.2.2.length,true,0) := by
 rw [sessR,if_neg (fun hh => hh.elim (fun x => x rfl) (fun x => x h3)),if_pos hl,hn,Int.toNat_natCast]
theorem sessR_go {t : ByteArray} {b : List UInt8} {most k : Nat} {left : Int} {a : Mg} {r : Rc} {s : Int} {n : Nat} (h3 : a.1 = 3) (hn : a.2.2.1 = n) (hl : left ≠ 0) : sessR t b most (k + 1) left a 0 r s = sessR t b most k (left - 1) (takeR r.1 r.2 (dMsg t b n most)).2.2 (takeR r.1 r.2 (dMsg t b n most)).1 (takeR r.1 r.2 (dMsg t b n most)).2.1 (s + (dMsg t b n most).2.2.2.2.length) := by
 rw [sessR,if_neg (fun hh => hh.elim (fun x => x rfl) (fun x => x h3)),if_neg hl,hn,Int.toNat_natCast]
set_option maxHeartbeats 4000000 in
theorem session_f (D : List Ob) (P : List Pt) (t : ByteArray) (b : List UInt8) (most : Nat) (through : Int) (hok : ROk (D,P)) (hd : isDig t = true) (hb : b.length ≤ 100000) (hm : 1 ≤ most ∧ most ≤ 65536) : FRet Tryd.prog 46 [aRc (D,P),.f (.str t),.f (frB b),.f (.int .i64 most),.f (.int .i64 through)] (rSX (sessionR t b most through (D,P))) := by
 obtain ⟨X,hX⟩ : ∃ X,sessionR t b most through (D,P) = X := ⟨_,rfl⟩
 rw [hX]
 unfold sessionR at hX
 refine FCall.of_ax low_ref8_session ?_
 dsimp only [l_ref8_session]
 refine srun_sound 300 _ _ _ _ ?_
 by_cases hl : through = 0
 ·rw [if_pos hl] at hX
  have d1 := dcT hl
  replace hl := hide hl
  replace hok := hide hok
  dsimp only [aRc]
  repeat' (first
   | (simp -implicitDefEqProofs only [*,zr,Nat.reduceAdd,Nat.reduceSub,Nat.reduceMul,Nat.reduceLT,Nat.reduceLeDiff,Nat.reduceEqDiff,Nat.reduceBEq,reduceIte,reduceCtorEq,Int.reduceLE,Int.reduceLT,Int.reduceToNat,Int.reduceEq,Int.reduceNe])
   | ((first|apply zk0|apply zk1|apply zk2|apply zk3|apply zk4|apply zk5|apply zk6|apply zk7|apply zk8|apply zk9) <;> intro hc)
   |(refine callP0 rfl ?_)
   |(refine callD0 rfl ?_)
   | fail)
  exact ret_sx hX.symm
 rw [if_neg hl] at hX
 have d1 := dcF hl
 have hck := begMsg_ck (b := b) hd hb
 have kt := take_z D P (1,t,0,(b.length : Int),[]) hok hck
 have hsok : SOk t b most (D,P) (1,t,0,b.length,[]) := ⟨hok,.inl rfl⟩
 have hini : (takeR D P (1,t,0,(b.length : Int),[])).1 = 0 → HOk t b (takeR D P (1,t,0,(b.length : Int),[])).2.2 (takeR D P (1,t,0,(b.length : Int),[])).2.1 := fun h => by
  obtain ⟨s1,s2⟩ := take_same (D := D) (P := P) (m := (1,t,0,(b.length : Int),[])) hok.p hck
  have h0 : (takeV D P (1,t,0,(b.length : Int),[])).1 = 0 := by rw [← s1];exact h
  rw [s2 h0]
  exact (step_ok hsok hd hb hm h0).1
 dsimp only at hX
 generalize takeR D P (1,t,0,(b.length : Int),[]) = V at *
 obtain ⟨q,⟨E,F⟩,a1,a2,a3,a4,a5⟩ := V
 dsimp only at hX hini
 have hat : SesAt t b most through X (b.length + 2) (a1,a2,a3,a4,a5) q (E,F) 0 1 := ⟨hX,fun h => ⟨hini h,fun _ => by
  obtain ⟨n,e1,e2,_⟩ := (hini h).nx (by assumption)
  unfold hmeas;rw [e1,Int.toNat_natCast];omega⟩,by omega,by omega,by omega⟩
 replace hat := hide hat
 replace hl := hide hl
 clear hX hini hsok hck hok
 dsimp only [rRM,fMg,List.map,aRc,aMg,rInt] at kt ⊢
 have hblen : (b.map encU).length = b.length := List.length_map _
 repeat' (first
  | (simp -implicitDefEqProofs only [*,frB,List.length_map,zr,Nat.reduceAdd,Nat.reduceSub,Nat.reduceMul,Nat.reduceLT,Nat.reduceLeDiff,Nat.reduceEqDiff,Nat.reduceBEq,reduceIte,reduceCtorEq,Int.reduceLE,Int.reduceLT,Int.reduceToNat,Int.reduceEq,Int.reduceNe])
  | ((first|apply zk0|apply zk1|apply zk2|apply zk3|apply zk4|apply zk5|apply zk6|apply zk7|apply zk8|apply zk9) <;> intro hc)
  |(refine callP0 rfl ?_)
  |(refine callD0 rfl ?_)
  |(refine cP (kt) ?_)
  |(refine cD (kt) ?_)
  |(refine cF (kt) ?_)
  | fail)
 clear kt d1
 refine ax_loopU (S := Nat × Mg × Int × Rc × Int × Int) 79 [1,2,3,4,5,10,14] [10] (fun s => [(15,.f (.int .i64 s.2.2.1)),(16,.f (.int .i64 s.2.2.2.2.1)),(17,.f (.int .i64 s.2.2.2.2.2))]) (fun s => [(5,1,AObj.cells [.f (frObs s.2.2.2.1.1),.f (frPts s.2.2.2.1.2)]),(14,1,AObj.cells ((fMg s.2.1).map .f))]) (fun s => SesAt t b most through X s.1 s.2.1 s.2.2.1 s.2.2.2.1 s.2.2.2.2.1 s.2.2.2.2.2) (fun s => s.1) ((b.length + 2,(a1,a2,a3,a4,a5),q,(E,F),0,1)) [] ?_ ?_ fun s hs => ?_
 ·exact hat.out
 ·refine wk_i ?_ ?_ <;> simp only [fMg,List.map,frB,zw,Nat.reduceEqDiff,Nat.reduceBEq,Nat.reduceLT,Nat.reduceLeDiff,reduceIte,reduceCtorEq]
 clear hat
 obtain ⟨k,⟨a1,a2,a3,a4,a5⟩,q,⟨E,F⟩,se,n⟩ := s
 obtain ⟨heq,hok,hkp,hse,hnb⟩ := hs
 dsimp only at heq hok hkp hse hnb ⊢
 obtain ⟨k,rfl⟩ : ∃ k',k = k' + 1 := ⟨k - 1,by omega⟩
 refine srun_sound 300 _ _ _ _ ?_
 dsimp only [fMg,List.map]
 by_cases hq : q = 0
 case neg =>
  rw [sessR_end (.inl hq)] at heq
  have d2 := dcF hq
  replace hq := hide hq
  clear hok
  repeat' (first
   | (simp -implicitDefEqProofs only [*,zr,Nat.reduceAdd,Nat.reduceSub,Nat.reduceMul,Nat.reduceLT,Nat.reduceLeDiff,Nat.reduceEqDiff,Nat.reduceBEq,reduceIte,reduceCtorEq,Int.reduceLE,Int.reduceLT,Int.reduceToNat,Int.reduceEq,Int.reduceNe])
   | ((first|apply zk0|apply zk1|apply zk2|apply zk3|apply zk4|apply zk5|apply zk6|apply zk7|apply zk8|apply zk9) <;> intro hc)
   |(refine callP0 rfl ?_)
   |(refine callD0 rfl ?_)
   | fail)
  exact ret_sx heq.symm
 obtain ⟨⟨hrok,hnx⟩,hme⟩ := hok hq
 subst hq
 by_cases h3 : a1 = 3
 case neg =>
  rw [sessR_end (.inr h3)] at heq
  have d3 := dcF h3
  replace h3 := hide h3
  clear hok hnx hme
  repeat' (first
   | (simp -implicitDefEqProofs only [*,zr,Nat.reduceAdd,Nat.reduceSub,Nat.reduceMul,Nat.reduceLT,Nat.reduceLeDiff,Nat.reduceEqDiff,Nat.reduceBEq,reduceIte,reduceCtorEq,Int.reduceLE,Int.reduceLT,Int.reduceToNat,Int.reduceEq,Int.reduceNe])
   | ((first|apply zk0|apply zk1|apply zk2|apply zk3|apply zk4|apply zk5|apply zk6|apply zk7|apply zk8|apply zk9) <;> intro hc)
   |(refine callP0 rfl ?_)
   |(refine callD0 rfl ?_)
   | fail)
  exact ret_sx heq.symm
 obtain ⟨f,e1,e2,e3⟩ := hnx h3
 have hme := hme h3
 dsimp only at e1
 subst e1 h3
 have hmf : b.length - f < k := by
  unfold hmeas at hme
  dsimp only at hme
  rw [Int.toNat_natCast] at hme
  omega
 have kd := messages2_z t b f most hb e2 hm
 have hck := dMsg_ck (t := t) (most := most) hd hb hm e2
 have kt := take_z E F (dMsg t b f most) hrok hck
 have hl2 : (dMsg t b f most).2.2.2.2.length ≤ 65536 := by show ((b.drop f).take most).length ≤ 65536;rw [List.length_take];omega
 have hnext : (takeR E F (dMsg t b f most)).1 = 0 → HOk t b (takeR E F (dMsg t b f most)).2.2 (takeR E F (dMsg t b f most)).2.1 ∧ ((takeR E F (dMsg t b f most)).2.2.1 = 3 → hmeas b (takeR E F (dMsg t b f most)).2.2 < b.length - f) := fun h => by
  obtain ⟨s1,s2⟩ := take_same (D := E) (P := F) (m := dMsg t b f most) hrok.p hck
  have h0 : (takeV E F (dMsg t b f most)).1 = 0 := by rw [← s1];exact h
  rw [s2 h0]
  have := step_ok (s_next (t := t) (most := most) e2 e3) hd hb hm h0
  rw [dmeas] at this
  exact this
 have hw1 : IntKind.i64.wrap ((f : Int) + (most : Int)) = ((f + most : Nat) : Int) := by rw [wrap64] <;> omega
 have hmn : min ((f + most : Nat) : Int) ((b.length : Nat) : Int) = ((min (f + most) b.length : Nat) : Int) := by omega
 have g1 : (((min (f + most) b.length : Nat) : Int) ≤ (b.length : Int)) = True := by rw [eq_iff_iff,iff_true];omega
 have e4 : List.take (min (f + most) b.length) (List.map encU b) = (b.take (min (f + most) b.length)).map encU := List.map_take.symm
 generalize b.take (min (f + most) b.length) = Y at *
 have hgo := fun h => sessR_go (t := t) (b := b) (most := most) (k := k) (left := through - n) (a := (3,a2,(f : Int),a4,a5)) (r := (E,F)) (s := se) rfl rfl h
 have hbr := fun h => sessR_br (t := t) (b := b) (most := most) (k := k) (left := through - n) (a := (3,a2,(f : Int),a4,a5)) (r := (E,F)) (s := se) rfl rfl h
 generalize takeR E F (dMsg t b f most) = V at *
 unfold dMsg at kd kt hl2 hgo hbr
 clear hck e3 hrok hnx hok
 generalize (b.drop f).take most = C at *
 dsimp only at hl2 hgo hbr
 have hw2 : IntKind.i64.wrap (se + (C.length : Int)) = se + (C.length : Int) := by rw [wrap64] <;> omega
 have hw3 : IntKind.i64.wrap (n + 1) = n + 1 := by rw [wrap64] <;> omega
 dsimp only [fMg,List.map,aRc,aMg,frB] at kd kt ⊢
 by_cases hn : n = through
 ·have hb2 := hbr (by omega)
  rw [hb2] at heq
  have d4 := dcT hn
  replace hn := hide hn
  clear hgo hbr kt
  repeat' (first
   | (simp -implicitDefEqProofs only [*,List.drop_zero,List.length_map,List.getElem?_cons_succ,List.getElem?_cons_zero,zr,Nat.reduceAdd,Nat.reduceSub,Nat.reduceMul,Nat.reduceLT,Nat.reduceLeDiff,Nat.reduceEqDiff,Nat.reduceBEq,reduceIte,reduceCtorEq,Int.reduceLE,Int.reduceLT,Int.reduceToNat,Int.reduceEq,Int.reduceNe])
   | ((first|apply zk0|apply zk1|apply zk2|apply zk3|apply zk4|apply zk5|apply zk6|apply zk7|apply zk8|apply zk9) <;> intro hc)
   |(refine callP0 rfl ?_)
   |(refine callD0 rfl ?_)
   |(refine cP (kd) ?_)
   |(refine cD (kd) ?_)
   |(refine cF (kd) ?_)
   | fail)
  exact ret_sx heq.symm
 ·have hg2 := hgo (by omega)
  rw [hg2] at heq
  have d4 := dcF hn
  have hn2 := hn
  replace hn := hide hn
  clear hgo hbr
  obtain ⟨q2,⟨E2,F2⟩,c1,c2,c3,c4,c5⟩ := V
  dsimp only at hnext heq
  have hat2 : SesAt t b most through X k (c1,c2,c3,c4,c5) q2 (E2,F2) (se + C.length) (n + 1) := ⟨by rw [show through - (n + 1) = through - n - 1 by omega];exact heq,fun h => ⟨(hnext h).1,fun h3 => by have := (hnext h).2 h3;omega⟩,by omega,by omega,by omega⟩
  replace hat2 := hide hat2
  clear heq hnext
  dsimp only [rRM,fMg,List.map,rInt,frB] at kt
  repeat' (first
   | (simp -implicitDefEqProofs only [*,List.drop_zero,List.length_map,List.getElem?_cons_succ,List.getElem?_cons_zero,zr,Nat.reduceAdd,Nat.reduceSub,Nat.reduceMul,Nat.reduceLT,Nat.reduceLeDiff,Nat.reduceEqDiff,Nat.reduceBEq,reduceIte,reduceCtorEq,Int.reduceLE,Int.reduceLT,Int.reduceToNat,Int.reduceEq,Int.reduceNe])
   | ((first|apply zk0|apply zk1|apply zk2|apply zk3|apply zk4|apply zk5|apply zk6|apply zk7|apply zk8|apply zk9) <;> intro hc)
   |(refine callP0 rfl ?_)
   |(refine callD0 rfl ?_)
   |(refine cP (kd) ?_)
   |(refine cD (kd) ?_)
   |(refine cF (kd) ?_)
   |(refine cP (kt) ?_)
   |(refine cD (kt) ?_)
   |(refine cF (kt) ?_)
   | fail)
  refine ⟨(k,(c1,c2,c3,c4,c5),q2,(E2,F2),se + C.length,n + 1),hat2.out,Nat.lt_succ_self k,?_⟩
  refine wk_i ?_ ?_ <;> simp only [fMg,List.map,frB,zw,Nat.reduceEqDiff,Nat.reduceBEq,Nat.reduceLT,Nat.reduceLeDiff,reduceIte,reduceCtorEq]
end Go.Proofs.YtjacnfjlocajoaaDoor
