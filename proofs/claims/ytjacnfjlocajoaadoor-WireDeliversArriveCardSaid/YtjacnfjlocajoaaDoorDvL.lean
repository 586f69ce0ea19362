/-
  The law WireDeliversArrive on the machine. No statement of the seat is proved here; no conditions.
-/
import Derived.Test.YtjacnfjlocajoaaDoorDvQ
import Derived.Test.YtjacnfjlocajoaaDoorWrT
namespace Go.Proofs.YtjacnfjlocajoaaDoor
open Go.RowKit Go.Shelf
set_option linter.unusedVariables false
set_option linter.unusedSimpArgs false
set_option maxRecDepth 100000

theorem Deliver_nil {r : Rc} {t : ByteArray} {b : List UInt8} {most : Int} {l : List Int} (h : (DeliverV r t b most l).2.2.2 ≠ 0) : DeliverV r t b most l = (([],[]),0,false,(DeliverV r t b most l).2.2.2) := by
 unfold DeliverV at h ⊢
 repeat' split
 all_goals first | rfl | (rename_i h1 h2 h3 h4 h5 h6;rw [if_neg h1,if_neg h2,if_neg h3,if_neg h4,if_neg h5,if_neg h6] at h;exact absurd rfl h)
theorem Deliver_z (r : Rc) (t : ByteArray) (b : List UInt8) (most : Int) (l : List Int) (hl : (r.1.length : Int) ≤ 9223372036854775807 ∧ (r.2.length : Int) ≤ 9223372036854775807) (hb : (∀ x ∈ r.1,(x.2.length : Int) ≤ 9223372036854775807) ∧ ∀ x ∈ r.2,(x.2.2.length : Int) ≤ 9223372036854775807) :
  FRet Tryd.prog 20 [aRc r,.f (.str t),.f (frB b),.f (.int .i64 most),.f (frI l)] [.agg [.v (frObs (DeliverV r t b most l).1.1),.v (frPts (DeliverV r t b most l).1.2)],rInt (DeliverV r t b most l).2.1,.c (.v (.bool (DeliverV r t b most l).2.2.1)),rInt (DeliverV r t b most l).2.2.2] :=
 (Deliver_w r t b most l hl hb).frz2 ⟨⟨rcF_row0 (enc := fOb) (fun _ => rfl),rcF_row0 (enc := fPt) (fun _ => rfl),trivial⟩,rfl,rfl,rfl,trivial⟩
theorem deliv_plain0 {t : ByteArray} {b : List UInt8} {most : Int} {l : List Int} (hd : isDig t = true)
  (hdel : ∀ mo : Nat,b.length ≤ 100000 → (1 ≤ mo ∧ mo ≤ 65536) → ∃ n : Int,delV t b mo (l ++ [-1]) ([],[]) 0 = (0,([(t,b)],[]),n) ∧ (b.length : Int) ≤ n ∧ n ≤ (b.length : Int) + (mo : Int) * (l.length : Int))
  (h : (DeliverV ([],[]) t b most l).2.2.2 = 0) :
  ∃ n : Int,DeliverV ([],[]) t b most l = (([(t,b)],[]),n,true,0) ∧ (b.length : Int) ≤ n ∧ n ≤ (b.length : Int) + most * (l.length : Int) ∧ (1 ≤ most ∧ most ≤ 65536) ∧ l.length ≤ 100 ∧ b.length ≤ 100000 := by
 unfold DeliverV at h ⊢
 by_cases h1 : ckRc ([],[]) = 0
 case neg => rw [if_pos h1] at h;dsimp only at h;exact absurd h h1
 rw [if_neg (fun hh => hh h1)] at h ⊢
 by_cases h2 : ckC t b = 0
 case neg => rw [if_pos h2] at h;dsimp only at h;exact absurd h h2
 rw [if_neg (fun hh => hh h2)] at h ⊢
 by_cases h3 : inRg most 1 65536 = false
 ·rw [if_pos h3] at h;cases h
 rw [if_neg h3] at h ⊢
 by_cases h4 : 100 < l.length
 ·rw [if_pos h4] at h;cases h
 rw [if_neg h4] at h ⊢
 by_cases h5 : l.any (fun n => !inRg n 0 20000) = true
 ·rw [if_pos h5] at h;cases h
 rw [if_neg h5] at h ⊢
 have hb : b.length ≤ 100000 := by
  unfold ckC at h2
  rw [if_neg (by rw [hd];decide)] at h2
  split at h2
  ·cases h2
  ·omega
 simp only [inRg,Bool.not_eq_false,Bool.and_eq_true,decide_eq_true_eq] at h3
 obtain ⟨n,e,e1,e2⟩ := hdel most.toNat hb (by omega)
 have hmm : ((most.toNat : Nat) : Int) = most := Int.toNat_of_nonneg (by omega)
 rw [hmm] at e2
 rw [e]
 refine ⟨n,?_,e1,e2,h3,by omega,hb⟩
 rw [if_neg (fun h => h rfl)]
 simp [hasK,kOb]
theorem deliv_plain {b : List UInt8} {most : Int} {l : List Int} (h : (DeliverV ([],[]) (digV b) b most l).2.2.2 = 0) :
  ∃ n : Int,DeliverV ([],[]) (digV b) b most l = (([(digV b,b)],[]),n,true,0) ∧ (b.length : Int) ≤ n ∧ n ≤ (b.length : Int) + most * (l.length : Int) ∧ (1 ≤ most ∧ most ≤ 65536) ∧ l.length ≤ 100 ∧ b.length ≤ 100000 := by
 have hdel := fun (mo : Nat) (hb : b.length ≤ 100000) hm => del_has (b := b) (most := mo) hb hm l ([],[]) 0 0 (.inl ⟨rfl,rfl⟩)
 have hd := isDig_digV (b := b)
 generalize digV b = t at *
 exact deliv_plain0 hd (fun mo hb hm => by obtain ⟨n,e,e1,e2⟩ := hdel mo hb hm;exact ⟨n,e,by omega,by omega⟩) h
set_option maxHeartbeats 8000000 in
theorem deliv_law_f (b : List UInt8) (most : Int) (l : List Int) (hb : (b.length : Int) ≤ 9223372036854775807) : FRet Tryd.prog 7 [.f (frB b),.f (.int .i64 most),.f (frI l)] [.c (.v (.bool true))] := by
 have kD := DigestS_f b hb
 have kV := Deliver_z ([],[]) (digV b) b most l ⟨by decide,by decide⟩ ⟨fun x hx => by simp at hx,fun x hx => by simp at hx⟩
 have kE := equalY_f b b hb
 rw [decide_eq_true rfl] at kE
 have hN := Deliver_nil (r := ([],[])) (t := digV b) (b := b) (most := most) (l := l)
 have hP := deliv_plain (b := b) (most := most) (l := l)
 generalize digV b = t at *
 generalize DeliverV ([],[]) t b most l = V at *
 obtain ⟨⟨E,Q⟩,n,bo,q⟩ := V
 dsimp only at hN hP
 refine FCall.of_ax low_law8_WireDeliversArrive ?_
 dsimp only [l_law8_WireDeliversArrive,aRc,frObs,frPts,List.map,rInt] at kV ⊢
 refine srun_sound 300 _ _ _ _ ?_
 by_cases h0 : q = 0
 case neg =>
  have e := hN h0
  obtain ⟨⟨rfl,rfl⟩,rfl,rfl,-⟩ : (E = [] ∧ Q = []) ∧ n = 0 ∧ bo = false ∧ True := by
   simp only [Prod.mk.injEq] at e
   exact ⟨⟨e.1.1,e.1.2⟩,e.2.1,e.2.2.1,trivial⟩
  have d1 := dcF h0
  clear hN hP e kE
  repeat' (first
   | (simp -implicitDefEqProofs only [*,zr,Nat.reduceAdd,Nat.reduceSub,Nat.reduceMul,Nat.reduceLT,Nat.reduceLeDiff,Nat.reduceEqDiff,Nat.reduceBEq,reduceIte,reduceCtorEq,Int.reduceLE,Int.reduceLT,Int.reduceToNat,Int.reduceEq,Int.reduceNe])
   | ((first|apply zk0|apply zk1|apply zk2|apply zk3|apply zk4|apply zk5|apply zk6|apply zk7|apply zk8|apply zk9) <;> intro hc)
   |(refine callP0 rfl ?_)
   |(refine callD0 rfl ?_)
   |(refine cP (kD) ?_)
   |(refine cD (kD) ?_)
   |(refine cF (kD) ?_)
   |(refine cP (kV) ?_)
   |(refine cD (kV) ?_)
   |(refine cF (kV) ?_)
   |(refine cP (awake8_f) ?_)
   |(refine cD (awake8_f) ?_)
   |(refine cF (awake8_f) ?_)
   | fail)
  exact ret_v
 obtain ⟨n',e,e1,e2,hm,hl,hbl⟩ := hP h0
 obtain ⟨⟨rfl,rfl⟩,rfl,rfl,-⟩ : (E = [(t,b)] ∧ Q = []) ∧ n = n' ∧ bo = true ∧ True := by
  simp only [Prod.mk.injEq] at e
  exact ⟨⟨e.1.1,e.1.2⟩,e.2.1,e.2.2.1,trivial⟩
 subst h0
 clear hN hP e
 have hml : most * (l.length : Int) ≤ 65536 * 100 := Int.mul_le_mul hm.2 (by omega) (by omega) (by omega)
 have hml0 : 0 ≤ most * (l.length : Int) := Int.mul_nonneg (by omega) (by omega)
 have w1 : IntKind.i64.wrap (most * (l.length : Int)) = most * (l.length : Int) := by rw [wrap64] <;> omega
 have w2 : IntKind.i64.wrap ((b.length : Int) + most * (l.length : Int)) = (b.length : Int) + most * (l.length : Int) := by rw [wrap64] <;> omega
 have c1 : decide (((1 : Nat) : Int) = 1) = true := by decide
 have c0 : decide (((0 : Nat) : Int) = 0) = true := by decide
 have d1 : decide (n ≥ (b.length : Int)) = true := dcT e1
 have d1' : decide ((b.length : Int) ≤ n) = true := dcT e1
 have d2 : decide (n ≤ (b.length : Int) + most * (l.length : Int)) = true := dcT e2
 repeat' (first
  | (simp -implicitDefEqProofs only [*,fOb,frB,frI,List.length_map,List.length_cons,List.length_nil,zr,Nat.reduceAdd,Nat.reduceSub,Nat.reduceMul,Nat.reduceLT,Nat.reduceLeDiff,Nat.reduceEqDiff,Nat.reduceBEq,reduceIte,reduceCtorEq,Int.reduceLE,Int.reduceLT,Int.reduceToNat,Int.reduceEq,Int.reduceNe])
  | ((first|apply zk0|apply zk1|apply zk2|apply zk3|apply zk4|apply zk5|apply zk6|apply zk7|apply zk8|apply zk9) <;> intro hc)
  |(refine callP0 rfl ?_)
  |(refine callD0 rfl ?_)
  |(refine cP (kD) ?_)
  |(refine cD (kD) ?_)
  |(refine cF (kD) ?_)
  |(refine cP (kV) ?_)
  |(refine cD (kV) ?_)
  |(refine cF (kV) ?_)
  |(refine cP (kE) ?_)
  |(refine cD (kE) ?_)
  |(refine cF (kE) ?_)
  |(refine cP (awake8_f) ?_)
  |(refine cD (awake8_f) ?_)
  |(refine cF (awake8_f) ?_)
  | fail)
 exact ret_v
end Go.Proofs.YtjacnfjlocajoaaDoor
