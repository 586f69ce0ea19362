/-
  The law WireMessagesArrive on the machine. No statement of the seat is proved here; no conditions.
-/
import Derived.Test.YtjacnfjlocajoaaDoorMsP
import Derived.Test.YtjacnfjlocajoaaDoorMsW
namespace Go.Proofs.YtjacnfjlocajoaaDoor
open Go.RowKit Go.Shelf
set_option linter.unusedVariables false
set_option linter.unusedSimpArgs false
set_option maxRecDepth 100000

theorem chunk_len {b : List UInt8} {n m s N : Nat} (hm : 1 ≤ m) (hN : nCh (b.length - n) m = N) (hs : s < N) :
  n + s * m < b.length ∧ ((b.drop (n + s * m)).take m).length = min m (b.length - (n + s * m)) ∧ (s + 1 < N → (b.drop (n + s * m)).length ≥ m ∧ n + (s + 1) * m < b.length) ∧ (s + 1 = N → b.length ≤ n + (s + 1) * m) := by
 have h := fun s => nCh_lt (x := b.length - n) (m := m) (s := s) hm
 rw [hN] at h
 have h1 := (h s).1 hs
 have hx : (s + 1) * m = s * m + m := by rw [Nat.add_mul,Nat.one_mul]
 refine ⟨by omega,by rw [List.length_take,List.length_drop],fun h2 => ?_,fun h2 => ?_⟩
 ·have h3 := (h (s + 1)).1 h2
  rw [List.length_drop]
  omega
 ·have h3 : ¬ (s + 1) * m < b.length - n := fun hh => by have := (h (s + 1)).2 hh;omega
  omega
structure ArrAt (t : ByteArray) (L n m N s : Nat) (r : Rc) (a : Mg) : Prop where
 le : s ≤ N
 nil : a.2.2.2.2 = []
 at_ : s < N ∧ a.1 = 3 ∧ Mid r t L (n + s * m) ∨ s = N ∧ (a.1 = 4 ∨ a.1 = 5)
set_option maxHeartbeats 8000000 in
theorem arrive_law_f (r : Rc) (b : List UInt8) (most : Int) (hr : RcS r) (hb : (b.length : Int) ≤ 9223372036854775807) : FRet Tryd.prog 5 [aRc r,.f (frB b),.f (.int .i64 most)] [.c (.v (.bool true))] := by
 have kD := DigestS_f b hb
 have hdg := isDig_digV (b := b)
 generalize digV b = t at *
 refine FCall.of_ax low_law8_WireMessagesArrive ?_
 dsimp only [l_law8_WireMessagesArrive]
 refine srun_sound 300 _ _ _ _ ?_
 by_cases hm1 : most < 1
 ·have d1 : decide (most < 1) = true := dcT hm1
  dsimp only [aRc]
  repeat' (first
   | (simp -implicitDefEqProofs only [*,zr,Nat.reduceAdd,Nat.reduceSub,Nat.reduceMul,Nat.reduceLT,Nat.reduceLeDiff,Nat.reduceEqDiff,Nat.reduceBEq,reduceIte,reduceCtorEq,Int.reduceLE,Int.reduceLT,Int.reduceToNat,Int.reduceEq,Int.reduceNe])
   | ((first|apply zk0|apply zk1|apply zk2|apply zk3|apply zk4|apply zk5|apply zk6|apply zk7|apply zk8|apply zk9) <;> intro hc)
   |(refine callP0 rfl ?_)
   |(refine callD0 rfl ?_)
   |(refine cP (kD) ?_)
   |(refine cD (kD) ?_)
   |(refine cF (kD) ?_)
   |(refine cP (awake8_f) ?_)
   |(refine cD (awake8_f) ?_)
   |(refine cF (awake8_f) ?_)
   | fail)
  exact ret_v
 have d1 : decide (most < 1) = false := dcF hm1
 by_cases hm2 : 65536 < most
 ·have d2 : decide (most > 65536) = true := dcT hm2
  have d2' : decide (65536 < most) = true := dcT hm2
  dsimp only [aRc]
  repeat' (first
   | (simp -implicitDefEqProofs only [*,zr,Nat.reduceAdd,Nat.reduceSub,Nat.reduceMul,Nat.reduceLT,Nat.reduceLeDiff,Nat.reduceEqDiff,Nat.reduceBEq,reduceIte,reduceCtorEq,Int.reduceLE,Int.reduceLT,Int.reduceToNat,Int.reduceEq,Int.reduceNe])
   | ((first|apply zk0|apply zk1|apply zk2|apply zk3|apply zk4|apply zk5|apply zk6|apply zk7|apply zk8|apply zk9) <;> intro hc)
   |(refine callP0 rfl ?_)
   |(refine callD0 rfl ?_)
   |(refine cP (kD) ?_)
   |(refine cD (kD) ?_)
   |(refine cF (kD) ?_)
   |(refine cP (awake8_f) ?_)
   |(refine cD (awake8_f) ?_)
   |(refine cF (awake8_f) ?_)
   | fail)
  exact ret_v
 have d2 : decide (most > 65536) = false := dcF hm2
 have d2' : decide (65536 < most) = false := dcF hm2
 by_cases hb2 : 100000 < b.length
 ·have kM := Messages_e t b 0 most hdg hb2
  dsimp only [aRc]
  repeat' (first
   | (simp -implicitDefEqProofs only [*,zr,Nat.reduceAdd,Nat.reduceSub,Nat.reduceMul,Nat.reduceLT,Nat.reduceLeDiff,Nat.reduceEqDiff,Nat.reduceBEq,reduceIte,reduceCtorEq,Int.reduceLE,Int.reduceLT,Int.reduceToNat,Int.reduceEq,Int.reduceNe])
   | ((first|apply zk0|apply zk1|apply zk2|apply zk3|apply zk4|apply zk5|apply zk6|apply zk7|apply zk8|apply zk9) <;> intro hc)
   |(refine callP0 rfl ?_)
   |(refine callD0 rfl ?_)
   |(refine cP (kD) ?_)
   |(refine cD (kD) ?_)
   |(refine cF (kD) ?_)
   |(refine cP (kM) ?_)
   |(refine cD (kM) ?_)
   |(refine cF (kM) ?_)
   |(refine cP (awake8_f) ?_)
   |(refine cD (awake8_f) ?_)
   |(refine cF (awake8_f) ?_)
   | fail)
  exact ret_v
 obtain ⟨m,rfl⟩ : ∃ n : Nat,most = (n : Int) := ⟨most.toNat,by omega⟩
 have hb3 : b.length ≤ 100000 := by omega
 have hm : 1 ≤ m ∧ m ≤ 65536 := by omega
 have kM := Messages_z t b 0 m hdg hb3 (by omega) hm
 have kT := Take_f r (1,t,0,b.length,[]) hr.l hr.b (by show ((0 : Nat) : Int) ≤ _;decide)
 have hs1 := Take_sizes (r := r) (m := (1,t,0,b.length,[]))
 have hE := Take_err (r := r) (m := (1,t,0,b.length,[]))
 have hF := first_take (r := r) (t := t) (L := b.length)
 have hn := Take_nil (r := r) (m := (1,t,0,b.length,[]))
 generalize hV : TakeV r (1,t,0,b.length,[]) = V at *
 obtain ⟨q,⟨D2,P2⟩,a⟩ := V
 obtain ⟨D,P⟩ := r
 dsimp only at *
 generalize nCh (b.length - 0) m = N0 at kM
 have hg0 : ((msgTo t b 0 m N0).map fMg)[0]? = some (fMg (1,t,0,b.length,[])) := rfl
 have hgl : ((msgTo t b 0 m N0).map fMg).length = N0 + 1 := by rw [List.length_map,msgTo_len]
 generalize (msgTo t b 0 m N0).map fMg = M0 at kM hg0 hgl
 dsimp only [aRc,aMg,fMg,List.map,rInt] at kT hg0 ⊢
 replace hV := hide hV
 replace hE := hide hE
 replace hdg := hide hdg
 by_cases h0 : q = 0
 case neg =>
  have d3 := dcF h0
  replace hF := hide hF
  replace h0 := hide h0
  repeat' (first
   | (simp -implicitDefEqProofs only [*,zr,Nat.reduceAdd,Nat.reduceSub,Nat.reduceMul,Nat.reduceLT,Nat.reduceLeDiff,Nat.reduceEqDiff,Nat.reduceBEq,reduceIte,reduceCtorEq,Int.reduceLE,Int.reduceLT,Int.reduceToNat,Int.reduceEq,Int.reduceNe])
   | ((first|apply zk0|apply zk1|apply zk2|apply zk3|apply zk4|apply zk5|apply zk6|apply zk7|apply zk8|apply zk9) <;> intro hc)
   |(refine callP0 rfl ?_)
   |(refine callD0 rfl ?_)
   |(refine cP (kD) ?_)
   |(refine cD (kD) ?_)
   |(refine cF (kD) ?_)
   |(refine cP (kM) ?_)
   |(refine cD (kM) ?_)
   |(refine cF (kM) ?_)
   |(refine cP (kT) ?_)
   |(refine cD (kT) ?_)
   |(refine cF (kT) ?_)
   |(refine cP (awake8_f) ?_)
   |(refine cD (awake8_f) ?_)
   |(refine cF (awake8_f) ?_)
   | fail)
  exact ret_v
 subst h0
 obtain ⟨a1,a2,a3,a4,a5⟩ := a
 dsimp only at *
 subst hn
 by_cases h5 : a1 = 5
 ·have d3 : decide (a1 = 5) = true := dcT h5
  replace hF := hide hF
  replace h5 := hide h5
  repeat' (first
   | (simp -implicitDefEqProofs only [*,zr,Nat.reduceAdd,Nat.reduceSub,Nat.reduceMul,Nat.reduceLT,Nat.reduceLeDiff,Nat.reduceEqDiff,Nat.reduceBEq,reduceIte,reduceCtorEq,Int.reduceLE,Int.reduceLT,Int.reduceToNat,Int.reduceEq,Int.reduceNe])
   | ((first|apply zk0|apply zk1|apply zk2|apply zk3|apply zk4|apply zk5|apply zk6|apply zk7|apply zk8|apply zk9) <;> intro hc)
   |(refine callP0 rfl ?_)
   |(refine callD0 rfl ?_)
   |(refine cP (kD) ?_)
   |(refine cD (kD) ?_)
   |(refine cF (kD) ?_)
   |(refine cP (kM) ?_)
   |(refine cD (kM) ?_)
   |(refine cF (kM) ?_)
   |(refine cP (kT) ?_)
   |(refine cD (kT) ?_)
   |(refine cF (kT) ?_)
   |(refine cP (awake8_f) ?_)
   |(refine cD (awake8_f) ?_)
   |(refine cF (awake8_f) ?_)
   | fail)
  exact ret_v
 have d3 : decide (a1 = 5) = false := dcF h5
 rcases hF rfl h5 with ⟨rfl,rfl⟩ | ⟨n,rfl,rfl,hnL,hMid⟩
 ·replace hF := hide hF
  replace h5 := hide h5
  repeat' (first
   | (simp -implicitDefEqProofs only [*,zr,Nat.reduceAdd,Nat.reduceSub,Nat.reduceMul,Nat.reduceLT,Nat.reduceLeDiff,Nat.reduceEqDiff,Nat.reduceBEq,reduceIte,reduceCtorEq,Int.reduceLE,Int.reduceLT,Int.reduceToNat,Int.reduceEq,Int.reduceNe])
   | ((first|apply zk0|apply zk1|apply zk2|apply zk3|apply zk4|apply zk5|apply zk6|apply zk7|apply zk8|apply zk9) <;> intro hc)
   |(refine callP0 rfl ?_)
   |(refine callD0 rfl ?_)
   |(refine cP (kD) ?_)
   |(refine cD (kD) ?_)
   |(refine cF (kD) ?_)
   |(refine cP (kM) ?_)
   |(refine cD (kM) ?_)
   |(refine cF (kM) ?_)
   |(refine cP (kT) ?_)
   |(refine cD (kT) ?_)
   |(refine cF (kT) ?_)
   |(refine cP (kM) ?_)
   |(refine cD (kM) ?_)
   |(refine cF (kM) ?_)
   |(refine cP (awake8_f) ?_)
   |(refine cD (awake8_f) ?_)
   |(refine cF (awake8_f) ?_)
   | fail)
  exact ret_v
 have kM2 := Messages_z t b n m hdg.out hb3 (by omega) hm
 obtain ⟨N,hN⟩ : ∃ N,nCh (b.length - n) m = N := ⟨_,rfl⟩
 have hch := fun s (hs : s < N) => chunk_len (b := b) (n := n) (m := m) (s := s) hm.1 hN hs
 have hNp : 0 < N := by rw [← hN];exact (nCh_lt hm.1).2 (by omega)
 rw [hN,show (msgTo t b n m N).map fMg = fMg (1,t,0,b.length,[]) :: ((List.range N).map fun i => dMsg t b (n + i * m) m).map fMg from rfl] at kM2
 have hcx : ∀ s,s < N → (((List.range N).map fun i => dMsg t b (n + i * m) m).map fMg)[s]? = some (fMg (dMsg t b (n + s * m) m)) := fun s hs => by
  rw [List.getElem?_map,List.getElem?_map,List.getElem?_range hs];rfl
 have hcl : (((List.range N).map fun i => dMsg t b (n + i * m) m).map fMg).length = N := by rw [List.length_map,List.length_map,List.length_range]
 generalize ((List.range N).map fun i => dMsg t b (n + i * m) m).map fMg = C at *
 have hNle : N ≤ 100000 := by
  have h := (hch (N - 1) (by omega)).1
  have : (N - 1) * 1 ≤ (N - 1) * m := Nat.mul_le_mul_left _ hm.1
  omega
 replace hcx := hide hcx
 replace hch := hide hch
 replace hMid := hide hMid
 replace hF := hide hF
 replace hN := hide hN
 have e1 : (1 ≤ ((N + 1 : Nat) : Int) ∧ ((N + 1 : Nat) : Int) ≤ ((N + 1 : Nat) : Int)) = True := by rw [eq_iff_iff,iff_true];omega
 have e2 : C.take N = C := by rw [← hcl,List.take_length]
 repeat' (first
  | (simp -implicitDefEqProofs only [*,List.length_cons,zr,Nat.reduceAdd,Nat.reduceSub,Nat.reduceMul,Nat.reduceLT,Nat.reduceLeDiff,Nat.reduceEqDiff,Nat.reduceBEq,reduceIte,reduceCtorEq,Int.reduceLE,Int.reduceLT,Int.reduceToNat,Int.reduceEq,Int.reduceNe])
  | ((first|apply zk0|apply zk1|apply zk2|apply zk3|apply zk4|apply zk5|apply zk6|apply zk7|apply zk8|apply zk9) <;> intro hc)
  |(refine callP0 rfl ?_)
  |(refine callD0 rfl ?_)
  |(refine cP (kD) ?_)
  |(refine cD (kD) ?_)
  |(refine cF (kD) ?_)
  |(refine cP (kM) ?_)
  |(refine cD (kM) ?_)
  |(refine cF (kM) ?_)
  |(refine cP (kT) ?_)
  |(refine cD (kT) ?_)
  |(refine cF (kT) ?_)
  |(refine cP (kM2) ?_)
  |(refine cD (kM2) ?_)
  |(refine cF (kM2) ?_)
  |(refine cP (awake8_f) ?_)
  |(refine cD (awake8_f) ?_)
  |(refine cF (awake8_f) ?_)
  | fail)
 clear hg0 hgl kM kT kM2 e1 e2
 refine ax_loopU (S := Nat × Rc × Mg) 101 [3,10,69,70] [] (fun s => [(71,.f (.int .i64 s.1))]) (fun s => [(3,1,AObj.cells [.f (frObs s.2.1.1),.f (frPts s.2.1.2)]),(10,1,AObj.cells ((fMg s.2.2).map .f))]) (fun s => ArrAt t b.length n m N s.1 s.2.1 s.2.2) (fun s => N - s.1) ((0,(D2,P2),(3,a2,(n : Int),a4,[]))) [] ?_ ?_ fun s hs => ?_
 ·exact ⟨Nat.zero_le _,rfl,.inl ⟨hNp,rfl,by simpa using hMid.out⟩⟩
 ·refine wk_i ?_ ?_ <;> simp only [zw,Nat.reduceEqDiff,Nat.reduceBEq,Nat.reduceLT,Nat.reduceLeDiff,reduceIte,reduceCtorEq]
  exact SlotsOk.of_eq rfl
 obtain ⟨s,⟨E,Q⟩,a⟩ := s
 obtain ⟨hle,hnil,hat⟩ := hs
 dsimp only at *
 refine srun_sound 300 _ _ _ _ ?_
 rcases hat with ⟨hlt,h3,hmid⟩ | ⟨rfl,h45⟩
 ·have hx := hcx.out s hlt
  obtain ⟨q1,q2,q3,q4⟩ := hch.out s hlt
  have hz := hmid.ok.sizes
  have h4 := inc64 hlt (by omega)
  have h2 := lt_t hlt
  have kT := Take_f (E,Q) (dMsg t b (n + s * m) m) hz.l hz.b (by show ((((b.drop (n + s * m)).take m).length : Nat) : Int) ≤ _;rw [q2];omega)
  have hn2 := Take_nil (r := (E,Q)) (m := dMsg t b (n + s * m) m)
  have hst := next_take (c := (b.drop (n + s * m)).take m) hmid hdg.out hb3 (by rw [q2];omega) (by rw [q2];omega) (by rw [q2];omega)
  have hst2 : (TakeV (E,Q) (dMsg t b (n + s * m) m)).1 = 16 ∨ (TakeV (E,Q) (dMsg t b (n + s * m) m)).1 = 0 ∧ ArrAt t b.length n m N (s + 1) (TakeV (E,Q) (dMsg t b (n + s * m) m)).2.1 (TakeV (E,Q) (dMsg t b (n + s * m) m)).2.2 := by
   rcases hst with h | ⟨h,h'⟩
   ·exact .inl h
   ·refine .inr ⟨h,hlt,hn2,?_⟩
    rw [q2] at h'
    have hxx : n + (s + 1) * m = n + s * m + m := by rw [Nat.add_mul];omega
    rcases h' with ⟨k1,k2,k3⟩ | ⟨k1,k2⟩
    ·refine .inl ⟨?_,k2,?_⟩
     ·rcases Nat.lt_or_ge (s + 1) N with h6 | h6
      ·exact h6
      ·have := q4 (by omega);omega
     ·have h6 : s + 1 < N := by
       rcases Nat.lt_or_ge (s + 1) N with h6 | h6
       ·exact h6
       ·have := q4 (by omega);omega
      have := q3 h6
      rw [List.length_drop] at this
      rw [hxx,show n + s * m + m = n + s * m + min m (b.length - (n + s * m)) by omega]
      exact k3
    ·refine .inr ⟨?_,k2⟩
     rcases Nat.lt_or_ge (s + 1) N with h6 | h6
     ·have := q3 h6;omega
     ·omega
  generalize hW : TakeV (E,Q) (dMsg t b (n + s * m) m) = W at *
  obtain ⟨w0,⟨E2,Q2⟩,w⟩ := W
  generalize dMsg t b (n + s * m) m = d at *
  clear hst q1 q2 q3 q4 hmid
  obtain ⟨d1',d2',d3',d4',d5'⟩ := d
  obtain ⟨w1,w2,w3,w4,w5⟩ := w
  dsimp only at hn2 hst2
  subst hn2
  dsimp only [aRc,aMg,fMg,List.map,rInt] at kT hx ⊢
  replace hW := hide hW
  rcases hst2 with rfl | ⟨rfl,hAr⟩
  ·repeat' (first
    | (simp -implicitDefEqProofs only [*,zr,Nat.reduceAdd,Nat.reduceSub,Nat.reduceMul,Nat.reduceLT,Nat.reduceLeDiff,Nat.reduceEqDiff,Nat.reduceBEq,reduceIte,reduceCtorEq,Int.reduceLE,Int.reduceLT,Int.reduceToNat,Int.reduceEq,Int.reduceNe])
    | ((first|apply zk0|apply zk1|apply zk2|apply zk3|apply zk4|apply zk5|apply zk6|apply zk7|apply zk8|apply zk9) <;> intro hc)
    |(refine callP0 rfl ?_)
    |(refine callD0 rfl ?_)
    |(refine cP (kT) ?_)
    |(refine cD (kT) ?_)
    |(refine cF (kT) ?_)
    |(refine cP (awake8_f) ?_)
    |(refine cD (awake8_f) ?_)
    |(refine cF (awake8_f) ?_)
    | fail)
   exact ret_v
  ·replace hAr := hide hAr
   repeat' (first
    | (simp -implicitDefEqProofs only [*,zr,Nat.reduceAdd,Nat.reduceSub,Nat.reduceMul,Nat.reduceLT,Nat.reduceLeDiff,Nat.reduceEqDiff,Nat.reduceBEq,reduceIte,reduceCtorEq,Int.reduceLE,Int.reduceLT,Int.reduceToNat,Int.reduceEq,Int.reduceNe])
    | ((first|apply zk0|apply zk1|apply zk2|apply zk3|apply zk4|apply zk5|apply zk6|apply zk7|apply zk8|apply zk9) <;> intro hc)
    |(refine callP0 rfl ?_)
    |(refine callD0 rfl ?_)
    |(refine cP (kT) ?_)
    |(refine cD (kT) ?_)
    |(refine cF (kT) ?_)
    |(refine cP (awake8_f) ?_)
    |(refine cD (awake8_f) ?_)
    |(refine cF (awake8_f) ?_)
    | fail)
   refine ⟨(s + 1,(E2,Q2),(w1,w2,w3,w4,[])),hAr.out,by dsimp only;omega,?_⟩
   refine wk_i ?_ ?_ <;> simp only [zw,Nat.reduceEqDiff,Nat.reduceBEq,Nat.reduceLT,Nat.reduceLeDiff,reduceIte,reduceCtorEq]
 ·have h2 : decide ((s : Int) < (s : Int)) = false := dcF (by omega)
  have h2' : decide (s < s) = false := dcF (by omega)
  obtain ⟨a1,a2,a3,a4,a5⟩ := a
  dsimp only at h45 hnil
  subst hnil
  dsimp only [fMg,List.map]
  rcases h45 with rfl | rfl
  ·repeat' (first
    | (simp -implicitDefEqProofs only [*,zr,Nat.reduceAdd,Nat.reduceSub,Nat.reduceMul,Nat.reduceLT,Nat.reduceLeDiff,Nat.reduceEqDiff,Nat.reduceBEq,reduceIte,reduceCtorEq,Int.reduceLE,Int.reduceLT,Int.reduceToNat,Int.reduceEq,Int.reduceNe])
    | ((first|apply zk0|apply zk1|apply zk2|apply zk3|apply zk4|apply zk5|apply zk6|apply zk7|apply zk8|apply zk9) <;> intro hc)
    |(refine callP0 rfl ?_)
    |(refine callD0 rfl ?_)
    |(refine cP (awake8_f) ?_)
    |(refine cD (awake8_f) ?_)
    |(refine cF (awake8_f) ?_)
    | fail)
   exact ret_v
  ·repeat' (first
    | (simp -implicitDefEqProofs only [*,zr,Nat.reduceAdd,Nat.reduceSub,Nat.reduceMul,Nat.reduceLT,Nat.reduceLeDiff,Nat.reduceEqDiff,Nat.reduceBEq,reduceIte,reduceCtorEq,Int.reduceLE,Int.reduceLT,Int.reduceToNat,Int.reduceEq,Int.reduceNe])
    | ((first|apply zk0|apply zk1|apply zk2|apply zk3|apply zk4|apply zk5|apply zk6|apply zk7|apply zk8|apply zk9) <;> intro hc)
    |(refine callP0 rfl ?_)
    |(refine callD0 rfl ?_)
    |(refine cP (awake8_f) ?_)
    |(refine cD (awake8_f) ?_)
    |(refine cF (awake8_f) ?_)
    | fail)
   exact ret_v
end Go.Proofs.YtjacnfjlocajoaaDoor
