/-
  The document's Deliver. No statement of the seat is proved here; no conditions.
-/
import Derived.Test.YtjacnfjlocajoaaDoorRv3
namespace Go.Proofs.YtjacnfjlocajoaaDoor
open Go.RowKit Go.Shelf
set_option linter.unusedVariables false
set_option linter.unusedSimpArgs false
set_option maxRecDepth 100000

theorem once_shift {t : ByteArray} {b : List UInt8} {most : Nat} : ∀ (k : Nat) (left : Int) (m : Mg) (r : Rc) (s d : Int),onceV t b most k left m r (s + d) = ((onceV t b most k left m r s).1,(onceV t b most k left m r s).2.1,(onceV t b most k left m r s).2.2 + d)
 | 0,left,m,r,s,d => rfl
 | k + 1,left,m,r,s,d => by
  rw [onceV,onceV]
  split
  ·show (_,_,_) = (_,_,_)
   rw [show s + d + (m.2.2.2.2.length : Int) = s + m.2.2.2.2.length + d by omega]
  split
  ·show (_,_,_) = (_,_,_)
   rw [show s + d + (m.2.2.2.2.length : Int) = s + m.2.2.2.2.length + d by omega]
  ·rw [show s + d + (m.2.2.2.2.length : Int) = s + m.2.2.2.2.length + d by omega]
   exact once_shift k _ _ _ _ _
theorem del_step {t : ByteArray} {b : List UInt8} {most : Nat} {x : Int} {L : List Int} {r : Rc} {s : Int} : delV t b most (x :: L) r s =
  if (onceV t b most (b.length + 2) x (1,t,0,b.length,[]) r 0).1.2 ≠ 0 then ((onceV t b most (b.length + 2) x (1,t,0,b.length,[]) r 0).1.2,([],[]),0)
  else if (onceV t b most (b.length + 2) x (1,t,0,b.length,[]) r 0).1.1 = true then (0,(onceV t b most (b.length + 2) x (1,t,0,b.length,[]) r 0).2.1,s + (onceV t b most (b.length + 2) x (1,t,0,b.length,[]) r 0).2.2)
  else delV t b most L (onceV t b most (b.length + 2) x (1,t,0,b.length,[]) r 0).2.1 (s + (onceV t b most (b.length + 2) x (1,t,0,b.length,[]) r 0).2.2) := by
 have h := once_shift (t := t) (b := b) (most := most) (b.length + 2) x (1,t,0,b.length,[]) r 0 s
 rw [Int.zero_add] at h
 rw [delV,h]
 dsimp only
 rw [Int.add_comm _ s]
theorem z_dn {H : Heap} {q : Int} {A : SX} (hq : q ≠ 0) : RetsZ (rSX (if (q,(([],[]) : Rc),(0 : Int)).1 ≠ 0 then (([],[]),0,false,(q,(([],[]) : Rc),(0 : Int)).1) else A)) (.tup [.agg [.f .nil,.f .nil],.f (.int .i64 0),.f (.bool false),.f (.int .i64 q)]) H := by
 rw [if_pos hq]
 exact ⟨[.agg [.own 2 0 [],.own 3 0 []],rInt 0,.c (.v (.bool false)),rInt q],⟨[.agg [.f .nil,.f .nil],.f (.int .i64 0),.f (.bool false),.f (.int .i64 q)],rfl,⟨⟨.inl ⟨rfl,rfl,rfl⟩,.inl ⟨rfl,rfl,rfl⟩,rfl⟩,rfl,rfl,rfl,rfl⟩,List.nodup_nil⟩,⟨rcF_row0 (enc := fOb) (l := []) (fun _ => rfl),rcF_row0 (enc := fPt) (l := []) (fun _ => rfl),trivial⟩,rfl,rfl,rfl,trivial⟩
theorem z_de {H : Heap} {q : Int} : RetsZ (rSX (([],[]),0,false,q)) (.tup [.agg [.f .nil,.f .nil],.f (.int .i64 0),.f (.bool false),.f (.int .i64 q)]) H :=
 ⟨[.agg [.own 2 0 [],.own 3 0 []],rInt 0,.c (.v (.bool false)),rInt q],⟨[.agg [.f .nil,.f .nil],.f (.int .i64 0),.f (.bool false),.f (.int .i64 q)],rfl,⟨⟨.inl ⟨rfl,rfl,rfl⟩,.inl ⟨rfl,rfl,rfl⟩,rfl⟩,rfl,rfl,rfl,rfl⟩,List.nodup_nil⟩,⟨rcF_row0 (enc := fOb) (l := []) (fun _ => rfl),rcF_row0 (enc := fPt) (l := []) (fun _ => rfl),trivial⟩,rfl,rfl,rfl,trivial⟩
theorem z_dv {H : Heap} {D : List Ob} {P : List Pt} {se q : Int} {bo : Bool} : RetsZ (rSX ((D,P),se,bo,q)) (.tup [.agg [.f (frObs D),.f (frPts P)],.f (.int .i64 se),.f (.bool bo),.f (.int .i64 q)]) H :=
 ⟨rSX ((D,P),se,bo,q),ret_sx rfl,⟨rfl,rfl,trivial⟩,rfl,rfl,rfl,trivial⟩
structure RdAt (t : ByteArray) (b : List UInt8) (most : Nat) (L : List Int) (V : Int × Rc × Int) (s : Nat) (r : Rc) (sent : Int) : Prop where
 lt : s < L.length
 ok : ROk r
 se : 0 ≤ sent ∧ sent ≤ (s : Int) * 6600000000
 eq : delV t b most (L.drop s) r sent = V
set_option maxHeartbeats 4000000 in
theorem DeliverR_f (r : Rc) (t : ByteArray) (b : List UInt8) (most : Int) (l : List Int) (hr : RcS r) (hll : (l.length : Int) ≤ 9223372036854775807) :
  FRet Tryd.prog 22 [aRc r,.f (.str t),.f (frB b),.f (.int .i64 most),.f (frI l)] (rSX (DeliverV r t b most l)) := by
 have kc := CheckReceiverR_f r hr.l hr.b
 have kI := isDigestR8_f t
 have kw := withinR_f most 1 65536
 have kB := checkBreaks_f l hll
 obtain ⟨D,P⟩ := r
 clear hr
 unfold DeliverV
 refine FCall.frz (FCall.of_ax low_ref8_Deliver ?_)
 dsimp only [l_ref8_Deliver]
 refine srun_sound 300 _ _ _ _ ?_
 by_cases h0 : ckRc (D,P) = 0
 case neg =>
  rw [if_pos h0]
  have d1 := dcF h0
  generalize ckRc (D,P) = q at *
  dsimp only [aRc,frI] at kc ⊢
  replace h0 := hide h0
  clear kB
  repeat' (first
   | (simp -implicitDefEqProofs only [*,zr,Nat.reduceAdd,Nat.reduceSub,Nat.reduceMul,Nat.reduceLT,Nat.reduceLeDiff,Nat.reduceEqDiff,Nat.reduceBEq,reduceIte,reduceCtorEq,Int.reduceLE,Int.reduceLT,Int.reduceToNat,Int.reduceEq,Int.reduceNe])
   | ((first|apply zk0|apply zk1|apply zk2|apply zk3|apply zk4|apply zk5|apply zk6|apply zk7|apply zk8|apply zk9) <;> intro hc)
   |(refine callP0 rfl ?_)
   |(refine callD0 rfl ?_)
   |(refine cP (kc) ?_)
   |(refine cD (kc) ?_)
   |(refine cF (kc) ?_)
   |(refine cO (kc) ?_)
   | fail)
  exact z_de
 rw [if_neg (show ¬ ckRc (D,P) ≠ 0 from fun h => h h0)]
 rw [h0] at kc
 have hok := ckRc_iff.1 h0
 replace h0 := hide h0
 have hz : decide ((0 : Int) = 0) = true := rfl
 by_cases hd : isDig t = true
 case neg =>
  have hd' : isDig t = false := by simpa using hd
  have e : ckC t b = 3 := by unfold ckC;rw [if_pos hd']
  rw [e,if_pos (show (3 : Int) ≠ 0 by decide)]
  rw [hd'] at kI
  replace hok := hide hok
  dsimp only [aRc,frI] at kc ⊢
  clear kB kw
  repeat' (first
   | (simp -implicitDefEqProofs only [*,zr,Nat.reduceAdd,Nat.reduceSub,Nat.reduceMul,Nat.reduceLT,Nat.reduceLeDiff,Nat.reduceEqDiff,Nat.reduceBEq,reduceIte,reduceCtorEq,Int.reduceLE,Int.reduceLT,Int.reduceToNat,Int.reduceEq,Int.reduceNe])
   | ((first|apply zk0|apply zk1|apply zk2|apply zk3|apply zk4|apply zk5|apply zk6|apply zk7|apply zk8|apply zk9) <;> intro hc)
   |(refine callP0 rfl ?_)
   |(refine callD0 rfl ?_)
   |(refine cP (kc) ?_)
   |(refine cD (kc) ?_)
   |(refine cF (kc) ?_)
   |(refine cO (kc) ?_)
   |(refine cP (kI) ?_)
   |(refine cD (kI) ?_)
   |(refine cF (kI) ?_)
   |(refine cO (kI) ?_)
   | fail)
  exact z_de
 rw [hd] at kI
 by_cases hb : b.length ≤ 100000
 case neg =>
  have e : ckC t b = 2 := by unfold ckC;rw [if_neg (show ¬ isDig t = false by rw [hd];decide),if_pos (by omega)]
  rw [e,if_pos (show (2 : Int) ≠ 0 by decide)]
  have d1 : decide ((b.length : Int) > 100000) = true := dcT (by omega)
  have d1' : decide (100000 < (b.length : Int)) = true := dcT (by omega)
  replace hok := hide hok
  dsimp only [aRc,frI,frB] at kc ⊢
  clear kB kw
  repeat' (first
   | (simp -implicitDefEqProofs only [*,List.length_map,zr,Nat.reduceAdd,Nat.reduceSub,Nat.reduceMul,Nat.reduceLT,Nat.reduceLeDiff,Nat.reduceEqDiff,Nat.reduceBEq,reduceIte,reduceCtorEq,Int.reduceLE,Int.reduceLT,Int.reduceToNat,Int.reduceEq,Int.reduceNe])
   | ((first|apply zk0|apply zk1|apply zk2|apply zk3|apply zk4|apply zk5|apply zk6|apply zk7|apply zk8|apply zk9) <;> intro hc)
   |(refine callP0 rfl ?_)
   |(refine callD0 rfl ?_)
   |(refine cP (kc) ?_)
   |(refine cD (kc) ?_)
   |(refine cF (kc) ?_)
   |(refine cO (kc) ?_)
   |(refine cP (kI) ?_)
   |(refine cD (kI) ?_)
   |(refine cF (kI) ?_)
   |(refine cO (kI) ?_)
   | fail)
  exact z_de
 have e : ckC t b = 0 := by unfold ckC;rw [if_neg (show ¬ isDig t = false by rw [hd];decide),if_neg (by omega)]
 rw [e,if_neg (show ¬ (0 : Int) ≠ 0 from fun h => h rfl)]
 have d1 : decide ((b.length : Int) > 100000) = false := dcF (by omega)
 have d1' : decide (100000 < (b.length : Int)) = false := dcF (by omega)
 cases hw : inRg most 1 65536 with
 | false =>
  rw [hw] at kw
  rw [if_pos rfl]
  replace hok := hide hok
  dsimp only [aRc,frI,frB] at kc ⊢
  clear kB
  repeat' (first
   | (simp -implicitDefEqProofs only [*,List.length_map,zr,Nat.reduceAdd,Nat.reduceSub,Nat.reduceMul,Nat.reduceLT,Nat.reduceLeDiff,Nat.reduceEqDiff,Nat.reduceBEq,reduceIte,reduceCtorEq,Int.reduceLE,Int.reduceLT,Int.reduceToNat,Int.reduceEq,Int.reduceNe])
   | ((first|apply zk0|apply zk1|apply zk2|apply zk3|apply zk4|apply zk5|apply zk6|apply zk7|apply zk8|apply zk9) <;> intro hc)
   |(refine callP0 rfl ?_)
   |(refine callD0 rfl ?_)
   |(refine cP (kc) ?_)
   |(refine cD (kc) ?_)
   |(refine cF (kc) ?_)
   |(refine cO (kc) ?_)
   |(refine cP (kI) ?_)
   |(refine cD (kI) ?_)
   |(refine cF (kI) ?_)
   |(refine cO (kI) ?_)
   |(refine cP (kw) ?_)
   |(refine cD (kw) ?_)
   |(refine cF (kw) ?_)
   |(refine cO (kw) ?_)
   | fail)
  exact z_de
 | true =>
  rw [hw] at kw
  rw [if_neg (show ¬ (true = false) from fun h => by cases h)]
  by_cases hq : ckB l = 0
  case neg =>
   have e2 : ∀ A : SX,(if 100 < l.length then (([],[]),0,false,2) else if l.any (fun n => !inRg n 0 20000) = true then (([],[]),0,false,1) else A) = ((([],[]) : Rc),(0 : Int),false,ckB l) := fun A => by
    revert hq
    unfold ckB
    split
    ·exact fun _ => rfl
    split
    ·exact fun _ => rfl
    ·exact fun h => absurd rfl h
   rw [e2]
   have d2 := dcF hq
   generalize ckB l = q at *
   replace hok := hide hok
   replace hq := hide hq
   dsimp only [aRc,frI,frB] at kc kB ⊢
   repeat' (first
    | (simp -implicitDefEqProofs only [*,List.length_map,zr,Nat.reduceAdd,Nat.reduceSub,Nat.reduceMul,Nat.reduceLT,Nat.reduceLeDiff,Nat.reduceEqDiff,Nat.reduceBEq,reduceIte,reduceCtorEq,Int.reduceLE,Int.reduceLT,Int.reduceToNat,Int.reduceEq,Int.reduceNe])
    | ((first|apply zk0|apply zk1|apply zk2|apply zk3|apply zk4|apply zk5|apply zk6|apply zk7|apply zk8|apply zk9) <;> intro hc)
    |(refine callP0 rfl ?_)
    |(refine callD0 rfl ?_)
    |(refine cP (kc) ?_)
    |(refine cD (kc) ?_)
    |(refine cF (kc) ?_)
    |(refine cO (kc) ?_)
    |(refine cP (kI) ?_)
    |(refine cD (kI) ?_)
    |(refine cF (kI) ?_)
    |(refine cO (kI) ?_)
    |(refine cP (kw) ?_)
    |(refine cD (kw) ?_)
    |(refine cF (kw) ?_)
    |(refine cO (kw) ?_)
    |(refine cP (kB) ?_)
    |(refine cD (kB) ?_)
    |(refine cF (kB) ?_)
    |(refine cO (kB) ?_)
    | fail)
   exact z_de
  have hl1 : ¬ 100 < l.length := fun h => by unfold ckB at hq;rw [if_pos h] at hq;cases hq
  have hl2 : ¬ l.any (fun n => !inRg n 0 20000) = true := fun h => by unfold ckB at hq;rw [if_neg hl1,if_pos h] at hq;cases hq
  rw [if_neg hl1,if_neg hl2]
  rw [hq] at kB
  clear hl2 hq
  obtain ⟨w1,w2⟩ := rg_iff.1 hw
  obtain ⟨m,rfl⟩ := Int.eq_ofNat_of_zero_le (Int.le_trans (by decide) w1)
  have hm : 1 ≤ m ∧ m ≤ 65536 := by omega
  rw [Int.toNat_natCast]
  obtain ⟨V,hV⟩ : ∃ V,delV t b m (l ++ [-1]) (D,P) 0 = V := ⟨_,rfl⟩
  rw [hV]
  have hat : RdAt t b m (l ++ [-1]) V 0 (D,P) 0 := ⟨by simp,hok,by omega,hV⟩
  replace hat := hide hat
  clear hok hV w1 w2 hw e h0
  dsimp only [aRc,frI,frB] at kc kB ⊢
  repeat' (first
   | (simp -implicitDefEqProofs only [*,List.length_map,zr,Nat.reduceAdd,Nat.reduceSub,Nat.reduceMul,Nat.reduceLT,Nat.reduceLeDiff,Nat.reduceEqDiff,Nat.reduceBEq,reduceIte,reduceCtorEq,Int.reduceLE,Int.reduceLT,Int.reduceToNat,Int.reduceEq,Int.reduceNe])
   | ((first|apply zk0|apply zk1|apply zk2|apply zk3|apply zk4|apply zk5|apply zk6|apply zk7|apply zk8|apply zk9) <;> intro hc)
   |(refine callP0 rfl ?_)
   |(refine callD0 rfl ?_)
   |(refine cP (kc) ?_)
   |(refine cD (kc) ?_)
   |(refine cF (kc) ?_)
   |(refine cO (kc) ?_)
   |(refine cP (kI) ?_)
   |(refine cD (kI) ?_)
   |(refine cF (kI) ?_)
   |(refine cO (kI) ?_)
   |(refine cP (kw) ?_)
   |(refine cD (kw) ?_)
   |(refine cF (kw) ?_)
   |(refine cO (kw) ?_)
   |(refine cP (kB) ?_)
   |(refine cD (kB) ?_)
   |(refine cF (kB) ?_)
   |(refine cO (kB) ?_)
   | fail)
  clear kc kI kw kB d1 d1'
  refine ax_loopU (S := Nat × Rc × Int) 89 [1,2,3,4,5,10] [10] (fun s => [(16,.f (.int .i64 s.2.2)),(18,.f (.int .i64 (s.1 : Nat)))]) (fun s => [(5,1,AObj.cells [.f (frObs s.2.1.1),.f (frPts s.2.1.2)])]) (fun s => RdAt t b m (l ++ [-1]) V s.1 s.2.1 s.2.2) (fun s => l.length + 1 - s.1) ((0,(D,P),0)) [] ?_ ?_ fun s hs => ?_
  ·exact hat.out
  ·refine wk_i ?_ ?_ <;> simp only [zw,Nat.reduceEqDiff,Nat.reduceBEq,Nat.reduceLT,Nat.reduceLeDiff,reduceIte,reduceCtorEq]
  clear hat
  obtain ⟨s,⟨E,F⟩,se⟩ := s
  obtain ⟨hlt,hrok,hse,heq⟩ := hs
  dsimp only at hlt hrok hse heq ⊢
  rw [List.length_append] at hlt
  have hlt' : s < l.length + 1 := hlt
  clear hlt
  have hle : decide ((s : Int) ≤ (l.length : Int)) = true := dcT (by omega)
  have h4 : IntKind.i64.wrap ((s : Int) + 1) = ((s + 1 : Nat) : Int) := by rw [wrap64] <;> omega
  refine srun_sound 300 _ _ _ _ ?_
  rcases Nat.lt_or_ge s l.length with hsl | hsl
  ·obtain ⟨x,hx⟩ := get_some hsl
   have hdrop : (l ++ [-1]).drop s = x :: (l ++ [-1]).drop (s + 1) := by
    rw [List.drop_eq_getElem_cons (by rw [List.length_append];show s < l.length + 1;omega),List.getElem_append_left hsl]
    rw [(List.getElem?_eq_some_iff.1 hx).2]
   have h2 : decide ((s : Int) < (l.length : Int)) = true := dcT (by omega)
   have h2' := lt_t hsl

   obtain ⟨g1,g2⟩ := session_same (through := x) hrok hd hb hm
   have kS := session_f E F t b m x hrok hd hb hm
   obtain ⟨o1,o2,o3⟩ := once_ok hd hb hm (b.length + 2) x (1,t,0,b.length,[]) (E,F) 0 ⟨hrok,.inl rfl⟩ (by unfold meas;rw [if_pos rfl];omega)
   rw [hdrop,del_step] at heq
   generalize onceV t b m (b.length + 2) x (1,t,0,b.length,[]) (E,F) 0 = R at *
   generalize sessionR t b m x (E,F) = X at *
   obtain ⟨⟨bo,q⟩,⟨E2,F2⟩,dn⟩ := R
   obtain ⟨⟨E3,F3⟩,n3,br,q3⟩ := X
   dsimp only at g1 g2 heq o1 o2 o3
   subst g1
   dsimp only [rSX,rInt,aRc,frB,frI] at kS ⊢
   clear hdrop
   by_cases hq : q3 = 0
   case neg =>
    rw [if_pos hq] at heq
    have d2 := dcF hq
    replace hq2 := hide hq
    clear g2 o1
    replace hrok := hide hrok
    repeat' (first
     | (simp -implicitDefEqProofs only [*,List.getElem?_map,Option.map_some,encI,List.length_map,zr,Nat.reduceAdd,Nat.reduceSub,Nat.reduceMul,Nat.reduceLT,Nat.reduceLeDiff,Nat.reduceEqDiff,Nat.reduceBEq,reduceIte,reduceCtorEq,Int.reduceLE,Int.reduceLT,Int.reduceToNat,Int.reduceEq,Int.reduceNe])
     | ((first|apply zk0|apply zk1|apply zk2|apply zk3|apply zk4|apply zk5|apply zk6|apply zk7|apply zk8|apply zk9) <;> intro hc)
     |(refine callP0 rfl ?_)
     |(refine callD0 rfl ?_)
     |(refine cP (kS) ?_)
     |(refine cD (kS) ?_)
     |(refine cF (kS) ?_)
     |(refine cO (kS) ?_)
     | fail)
    rw [← heq]
    exact z_dn hq
   have g3 := g2 hq
   have hrok2 := o1 hq
   subst hq
   simp only [Prod.mk.injEq,and_true] at g3
   obtain ⟨⟨e1,e2⟩,e3,e4⟩ := g3
   subst e1 e2 e3 e4
   rw [if_neg (show ¬ ((0 : Int) ≠ 0) from fun h => h rfl)] at heq
   have hw : IntKind.i64.wrap (se + n3) = se + n3 := by rw [wrap64] <;> omega
   clear g2 o1
   cases bo with
   | true =>
    rw [if_pos rfl] at heq
    have kd := doneOf_f (E3,F3) t (by have := hrok2.d.len;dsimp only at this ⊢;omega)
    have hn := done_ix hrok2.d.rise t
    dsimp only [aRc] at kd hn
    have hv : decide (ixV (fun o : Ob => decide (o.1 = t)) E3 ≥ 0) = hasK kOb E3 t := by
     rcases hn with ⟨_,e1,e2⟩ | ⟨i,o,_,e1,e2,_⟩
     ·rw [e1,e2];rfl
     ·rw [e1,e2];simp
    clear hn
    generalize ixV (fun o : Ob => decide (o.1 = t)) E3 = iv at kd hv
    replace hrok := hide hrok
    replace hrok2 := hide hrok2
    rw [← heq]
    clear heq
    dsimp only
    rw [if_neg (show ¬ ((0 : Int) ≠ 0) from fun h => h rfl)]
    generalize hasK kOb E3 t = hk at *
    repeat' (first
     | (simp -implicitDefEqProofs only [*,List.getElem?_map,Option.map_some,encI,List.length_map,Bool.not_true,zr,Nat.reduceAdd,Nat.reduceSub,Nat.reduceMul,Nat.reduceLT,Nat.reduceLeDiff,Nat.reduceEqDiff,Nat.reduceBEq,reduceIte,reduceCtorEq,Int.reduceLE,Int.reduceLT,Int.reduceToNat,Int.reduceEq,Int.reduceNe])
     | ((first|apply zk0|apply zk1|apply zk2|apply zk3|apply zk4|apply zk5|apply zk6|apply zk7|apply zk8|apply zk9) <;> intro hc)
     |(refine callP0 rfl ?_)
     |(refine callD0 rfl ?_)
     |(refine cP (kS) ?_)
     |(refine cD (kS) ?_)
     |(refine cF (kS) ?_)
     |(refine cO (kS) ?_)
     |(refine cP (kd) ?_)
     |(refine cD (kd) ?_)
     |(refine cF (kd) ?_)
     |(refine cO (kd) ?_)
     | fail)
    exact z_dv
   | false =>
    rw [if_neg (show ¬ (false = true) from fun h => by cases h)] at heq
    have hat2 : RdAt t b m (l ++ [-1]) V (s + 1) (E3,F3) (se + n3) := ⟨by rw [List.length_append];show s + 1 < l.length + 1;omega,hrok2,by omega,heq⟩
    replace hat2 := hide hat2
    replace hrok := hide hrok
    replace hrok2 := hide hrok2
    clear heq
    repeat' (first
     | (simp -implicitDefEqProofs only [*,List.getElem?_map,Option.map_some,encI,List.length_map,Bool.not_false,zr,Nat.reduceAdd,Nat.reduceSub,Nat.reduceMul,Nat.reduceLT,Nat.reduceLeDiff,Nat.reduceEqDiff,Nat.reduceBEq,reduceIte,reduceCtorEq,Int.reduceLE,Int.reduceLT,Int.reduceToNat,Int.reduceEq,Int.reduceNe])
     | ((first|apply zk0|apply zk1|apply zk2|apply zk3|apply zk4|apply zk5|apply zk6|apply zk7|apply zk8|apply zk9) <;> intro hc)
     |(refine callP0 rfl ?_)
     |(refine callD0 rfl ?_)
     |(refine cP (kS) ?_)
     |(refine cD (kS) ?_)
     |(refine cF (kS) ?_)
     |(refine cO (kS) ?_)
     | fail)
    refine ⟨(s + 1,(E3,F3),se + n3),hat2.out,by dsimp only;omega,?_⟩
    refine wk_i ?_ ?_ <;> simp only [zw,Nat.reduceEqDiff,Nat.reduceBEq,Nat.reduceLT,Nat.reduceLeDiff,reduceIte,reduceCtorEq]

  ·obtain ⟨x,hxx⟩ : ∃ x : Int,x = -1 := ⟨_,rfl⟩
   have hdrop : (l ++ [-1]).drop s = x :: (l ++ [-1]).drop (s + 1) := by
    have hsn : s = l.length := by omega
    subst hsn
    rw [hxx,List.drop_left,List.drop_eq_nil_of_le (by simp)]
   have h2 : decide ((s : Int) < (l.length : Int)) = false := dcF (by omega)
   have h2' := lt_f hsl
   have hneg := once_neg (t := t) (b := b) (most := m) (b.length + 2) x (1,t,0,b.length,[]) (E,F) 0 (by omega)

   obtain ⟨g1,g2⟩ := session_same (through := x) hrok hd hb hm
   have kS := session_f E F t b m x hrok hd hb hm
   obtain ⟨o1,o2,o3⟩ := once_ok hd hb hm (b.length + 2) x (1,t,0,b.length,[]) (E,F) 0 ⟨hrok,.inl rfl⟩ (by unfold meas;rw [if_pos rfl];omega)
   rw [hdrop,del_step] at heq
   generalize onceV t b m (b.length + 2) x (1,t,0,b.length,[]) (E,F) 0 = R at *
   generalize sessionR t b m x (E,F) = X at *
   obtain ⟨⟨bo,q⟩,⟨E2,F2⟩,dn⟩ := R
   obtain ⟨⟨E3,F3⟩,n3,br,q3⟩ := X
   dsimp only at g1 g2 heq o1 o2 o3 hneg
   subst g1
   rw [hxx] at kS
   dsimp only [rSX,rInt,aRc,frB,frI] at kS ⊢
   clear hdrop
   by_cases hq : q3 = 0
   case neg =>
    rw [if_pos hq] at heq
    have d2 := dcF hq
    replace hq2 := hide hq
    clear g2 o1
    replace hrok := hide hrok
    repeat' (first
     | (simp -implicitDefEqProofs only [*,List.getElem?_map,Option.map_some,encI,List.length_map,zr,Nat.reduceAdd,Nat.reduceSub,Nat.reduceMul,Nat.reduceLT,Nat.reduceLeDiff,Nat.reduceEqDiff,Nat.reduceBEq,reduceIte,reduceCtorEq,Int.reduceLE,Int.reduceLT,Int.reduceToNat,Int.reduceEq,Int.reduceNe])
     | ((first|apply zk0|apply zk1|apply zk2|apply zk3|apply zk4|apply zk5|apply zk6|apply zk7|apply zk8|apply zk9) <;> intro hc)
     |(refine callP0 rfl ?_)
     |(refine callD0 rfl ?_)
     |(refine cP (kS) ?_)
     |(refine cD (kS) ?_)
     |(refine cF (kS) ?_)
     |(refine cO (kS) ?_)
     | fail)
    rw [← heq]
    exact z_dn hq
   have g3 := g2 hq
   have hrok2 := o1 hq
   subst hq
   simp only [Prod.mk.injEq,and_true] at g3
   obtain ⟨⟨e1,e2⟩,e3,e4⟩ := g3
   subst e1 e2 e3 e4
   rw [if_neg (show ¬ ((0 : Int) ≠ 0) from fun h => h rfl)] at heq
   have hw : IntKind.i64.wrap (se + n3) = se + n3 := by rw [wrap64] <;> omega
   clear g2 o1
   cases bo with
   | true =>
    rw [if_pos rfl] at heq
    have kd := doneOf_f (E3,F3) t (by have := hrok2.d.len;dsimp only at this ⊢;omega)
    have hn := done_ix hrok2.d.rise t
    dsimp only [aRc] at kd hn
    have hv : decide (ixV (fun o : Ob => decide (o.1 = t)) E3 ≥ 0) = hasK kOb E3 t := by
     rcases hn with ⟨_,e1,e2⟩ | ⟨i,o,_,e1,e2,_⟩
     ·rw [e1,e2];rfl
     ·rw [e1,e2];simp
    clear hn
    generalize ixV (fun o : Ob => decide (o.1 = t)) E3 = iv at kd hv
    replace hrok := hide hrok
    replace hrok2 := hide hrok2
    rw [← heq]
    clear heq
    dsimp only
    rw [if_neg (show ¬ ((0 : Int) ≠ 0) from fun h => h rfl)]
    generalize hasK kOb E3 t = hk at *
    repeat' (first
     | (simp -implicitDefEqProofs only [*,List.getElem?_map,Option.map_some,encI,List.length_map,Bool.not_true,zr,Nat.reduceAdd,Nat.reduceSub,Nat.reduceMul,Nat.reduceLT,Nat.reduceLeDiff,Nat.reduceEqDiff,Nat.reduceBEq,reduceIte,reduceCtorEq,Int.reduceLE,Int.reduceLT,Int.reduceToNat,Int.reduceEq,Int.reduceNe])
     | ((first|apply zk0|apply zk1|apply zk2|apply zk3|apply zk4|apply zk5|apply zk6|apply zk7|apply zk8|apply zk9) <;> intro hc)
     |(refine callP0 rfl ?_)
     |(refine callD0 rfl ?_)
     |(refine cP (kS) ?_)
     |(refine cD (kS) ?_)
     |(refine cF (kS) ?_)
     |(refine cO (kS) ?_)
     |(refine cP (kd) ?_)
     |(refine cD (kd) ?_)
     |(refine cF (kd) ?_)
     |(refine cO (kd) ?_)
     | fail)
    exact z_dv
   | false =>
    rw [if_neg (show ¬ (false = true) from fun h => by cases h)] at heq
    exact absurd hneg (by decide)

end Go.Proofs.YtjacnfjlocajoaaDoor
