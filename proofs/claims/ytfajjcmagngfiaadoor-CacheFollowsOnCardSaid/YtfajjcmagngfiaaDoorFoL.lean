/-
  The law FollowsOn: walk. No statement of the seat is proved here; no conditions.
-/
import Derived.Test.YtfajjcmagngfiaaDoorCon
import Derived.Test.YtfajjcmagngfiaaDoorSam
import Derived.Test.YtfajjcmagngfiaaDoorCaL
namespace Go.Proofs.YtfajjcmagngfiaaDoor
open Go.RowKit Go.Shelf
set_option linter.unusedVariables false
set_option linter.unusedSimpArgs false
set_option maxRecDepth 100000

theorem isDig_size {d : ByteArray} (h : isDig d = true) : (d.size : Int) ≤ 9223372036854775807 := by
 unfold isDig at h
 simp only [Bool.and_eq_true,beq_iff_eq] at h
 omega
theorem sb_right {c : Cache} (h : CRight c) : SBound c := by
 refine ⟨sbound_of h,fun b hb => isDig_size (by have := h.bok b hb;unfold blobOk at this;rw [Bool.and_eq_true] at this;exact this.1),fun e he => ?_⟩
 obtain ⟨h1,h2,_⟩ := entOk_iff.1 (h.eok e he)
 refine ⟨isDig_size h1,fun d hd => ?_⟩
 unfold ckDigsM at h2
 split at h2
 ·cases h2
 ·obtain ⟨i,hi⟩ := List.mem_iff_getElem?.1 hd
  have h3 := fe_zero h2 i (List.getElem?_eq_some_iff.1 hi).1
  rw [digErr_of hi] at h3
  by_cases h4 : isDig d = true
  ·exact isDig_size h4
  ·rw [if_neg h4] at h3;cases h3
section
variable {P : Program} {R : Env → Heap → Prop} {Λ : Lams} {k : List It} {env : Env} {H : Heap} {d : Nat} {f : Operand} {args : List Operand} {g : Option (Nat × Bool)} {los : List LO} {fid : FuncId} {args' : List AV} {rs : List RS}
theorem callPm_ (m : Nat) (hF : FRet P fid args' rs) (hg : gd g env = some true) (hfn : evA env f = .f (.fn (.func fid))) (ha : LeL (args.map (evA env)) args') (hp : args'.all AV.pure = true) (hfree : ∀ j,j < nextSs 0 rs → H (d + 1000 * j) = (0,none))
  (h : srun P R m Λ (.ops los :: k) (putE env (some d) (oneOrTup (putS d 0 rs))) (putHs d 0 rs H)) : Ax P R Λ (.ops (⟨some d,.call f args,g⟩ :: los) :: k) env H :=
 ax_call (f := f) (args := args) rfl hg (Q := fun r H' => r = oneOrTup (putS d 0 rs) ∧ H' = putHs d 0 rs H) (by rw [hfn];exact (call_p (t := d) hF hp hfree).le ha) fun v H' hq => by obtain ⟨h1,h2⟩ := hq;subst h1 h2;exact srun_sound m _ _ _ _ h
end
theorem concatE_z (L : List (List FV)) (xs ys : List Ev) (hL : L.length = 2) (hL0 : L[0]? = some [.fr 6 (xs.map fEv)]) (hL1 : L[1]? = some [.fr 6 (ys.map fEv)]) (hb : (xs.length + ys.length) * 80 ≤ 281474976710656) :
  FRet Tryd.prog 6 [.f (.fr 1 L)] [.c (.v (frEvs (xs ++ ys)))] :=
 (concatE_f L xs ys hL hL0 hL1 hb).frz2 ⟨rcF_row0 (enc := fEv) (fun _ => rfl),trivial⟩
theorem concatA_z (L : List (List FV)) (xs ys : List Ans) (hL : L.length = 2) (hL0 : L[0]? = some [.fr 3 (xs.map fAns)]) (hL1 : L[1]? = some [.fr 3 (ys.map fAns)]) (hb : (xs.length + ys.length) * 56 ≤ 281474976710656) :
  FRet Tryd.prog 9 [.f (.fr 1 L)] [.c (.v (frAns (xs ++ ys)))] :=
 (concatA_f L xs ys hL hL0 hL1 hb).frz2 ⟨rcF_row0 (enc := fAns) (fun _ => rfl),trivial⟩
set_option maxHeartbeats 8000000 in
theorem followsOn_law (c : Cache) (xs ys : List Ev) (hb : CBound c) (hx : ∀ e ∈ xs,(e.2.2.2.1.length : Int) ≤ 9223372036854775807) (hy : ∀ e ∈ ys,(e.2.2.2.1.length : Int) ≤ 9223372036854775807) (hn : (xs.length + ys.length) * 80 ≤ 281474976710656) :
  FRet Tryd.prog 3 [aCache c,.f (frEvs xs),.f (frEvs ys)] [.c (.v (.bool true))] := by
 have dz : decide (((0 : Nat) : Int) = 0) = true := rfl
 have dz2 : decide ((0 : Int) = 0) = true := rfl
 by_cases h1 : folErr c xs = 0
 case neg =>
  have k1 := Follow_err c xs hb hx h1
  generalize folErr c xs = q at *
  have d0 : decide (q = 0) = false := dcF h1
  replace h1 := hide h1
  clear hb hx hy hn
  obtain ⟨room,lease,bl,en⟩ := c
  refine FCall.of_ax low_law7_CacheFollowsOn ?_
  dsimp only [l_law7_CacheFollowsOn,aCache,zRs2] at k1 ⊢
  refine srun_sound 300 _ _ _ _ ?_
  repeat' (first
   | (simp -implicitDefEqProofs only [*,addFp_wr,zr,Nat.reduceAdd,Nat.reduceSub,Nat.reduceMul,Nat.reduceLT,Nat.reduceLeDiff,Nat.reduceEqDiff,Nat.reduceBEq,reduceIte,reduceCtorEq,Int.reduceLE,Int.reduceLT,Int.reduceToNat,Int.reduceEq,Int.reduceNe])
   | ((first|apply zk0|apply zk1|apply zk2|apply zk3|apply zk4|apply zk5|apply zk6|apply zk7|apply zk8|apply zk9) <;> intro hc)
   |(refine callP0 rfl ?_)
   |(refine callD0 rfl ?_)
   |(refine cP (k1) ?_)
   |(refine cD (k1) ?_)
   |(refine cF (k1) ?_)
   |(refine cP (awake_f) ?_)
   |(refine cD (awake_f) ?_)
   |(refine cF (awake_f) ?_)
   | fail)
  exact ret_v
 have k1 := Follow_yes c xs hb hx h1
 obtain ⟨g1,g2,g3⟩ := folErr_zero h1
 have hP : ckCache (fol c xs).1 = 0 := fol_right g1
 have hxy : ∀ e ∈ xs ++ ys,(e.2.2.2.1.length : Int) ≤ 9223372036854775807 := fun e he => (List.mem_append.1 he).elim (hx e) (hy e)
 have hLs := fol_len g3
 have hA1 := fol_ok (l := xs) g1 hx
 have kC := concatE_z [[.fr 6 (xs.map fEv)],[.fr 6 (ys.map fEv)]] xs ys rfl rfl rfl hn
 have happ := fol_app (m := ys) g3
 have e1 : folErr c (xs ++ ys) = if xs.length + ys.length ≤ 3000 then (fol (fol c xs).1 ys).2.2 else 2 := by
  rcases folErr_cases c (xs ++ ys) with ⟨h2,h3⟩ | ⟨h2,h3,h4⟩ | ⟨h2,h3,h4⟩
  ·exact absurd g1 h2
  ·rw [List.length_append] at h3
   rw [if_neg (by omega)];exact h4
  ·rw [List.length_append] at h3
   rw [if_pos h3,h4,happ]
 have e2 : xs.length + ys.length ≤ 3000 → folErr (fol c xs).1 ys = (fol (fol c xs).1 ys).2.2 := fun h => by
  rcases folErr_cases (fol c xs).1 ys with ⟨h2,h3⟩ | ⟨h2,h3,h4⟩ | ⟨h2,h3,h4⟩
  ·exact absurd hP h2
  ·omega
  ·exact h4
 have hBP := sbound_of (right_iff.1 hP)
 have hlen : IntKind.i64.wrap ((xs.length : Int) + (ys.length : Int)) = ((xs.length + ys.length : Nat) : Int) := by rw [wrap64] <;> omega
 by_cases h3 : folErr c (xs ++ ys) = 0
 case neg =>
  have k3 := Follow_err c (xs ++ ys) hb hxy h3
  have key : ∃ r l fb fe fa f,FRet Tryd.prog 4 [aCache (fol c xs).1,.f (frEvs ys)] [.agg [.v (.int .i64 r),.v (.int .i64 l),.v fb,.v fe],.c (.v fa),.c (.v (.int .i64 f))] ∧ (xs.length + ys.length ≤ 3000 → f = folErr c (xs ++ ys)) := by
   by_cases h2 : folErr (fol c xs).1 ys = 0
   ·refine ⟨_,_,_,_,_,_,Follow_yes (fol c xs).1 ys hBP hy h2,fun h => ?_⟩
    rw [e2 h] at h2
    rw [e1,if_pos h,h2]
   ·refine ⟨_,_,_,_,_,_,Follow_err (fol c xs).1 ys hBP hy h2,fun h => ?_⟩
    rw [e2 h,e1,if_pos h]
  obtain ⟨r,l,fb,fe,fa,f,k2,hf⟩ := key
  have hq : 3000 < xs.length + ys.length → folErr c (xs ++ ys) = 2 := fun h => by rw [e1,if_neg (by omega)]
  generalize folErr c (xs ++ ys) = q at *
  have hF := hide hf
  have hQ := hide hq
  have d0 : decide (q = 0) = false := dcF h3
  generalize fol c xs = p at *
  obtain ⟨⟨xr,xl,B,E⟩,A,ft⟩ := p
  have H3 := hide h3
  clear hf hq h3 hb hx hy hn g1 g2 g3 hP hxy hLs hA1 happ e1 e2 hBP h1
  obtain ⟨room,lease,bl,en⟩ := c
  refine FCall.of_ax low_law7_CacheFollowsOn ?_
  dsimp only [l_law7_CacheFollowsOn,aCache,zRs2,rcCache,frEvs] at k1 k2 k3 kC ⊢
  refine srun_sound 300 _ _ _ _ ?_
  replace k1 := hide k1
  replace k2 := hide k2
  replace k3 := hide k3
  replace kC := hide kC
  repeat' (first
   | (simp -implicitDefEqProofs only [*,addFp_wr,zr,Nat.reduceAdd,Nat.reduceSub,Nat.reduceMul,Nat.reduceLT,Nat.reduceLeDiff,Nat.reduceEqDiff,Nat.reduceBEq,reduceIte,reduceCtorEq,Int.reduceLE,Int.reduceLT,Int.reduceToNat,Int.reduceEq,Int.reduceNe])
   | ((first|apply zk0|apply zk1|apply zk2|apply zk3|apply zk4|apply zk5|apply zk6|apply zk7|apply zk8|apply zk9) <;> intro hc)
   |(refine callP0 rfl ?_)
   |(refine callD0 rfl ?_)
   |(refine cP (k1.out) ?_)
   |(refine cD (k1.out) ?_)
   |(refine cF (k1.out) ?_)
   | fail)
  refine callPm_ 14 k2.out rfl rfl (LeL.refl _) (by rfl) (by simp [nextSs,nextCs,nextC]) ?_
  simp -implicitDefEqProofs only [addFp_wr,zr,Nat.reduceAdd,Nat.reduceSub,Nat.reduceMul,Nat.reduceLT,Nat.reduceLeDiff,Nat.reduceEqDiff,Nat.reduceBEq,reduceIte,reduceCtorEq,Int.reduceLE,Int.reduceLT,Int.reduceToNat,Int.reduceEq,Int.reduceNe]
  refine ax_dbuildF [.fr 6 (xs.map fEv),.fr 6 (ys.map fEv)] rfl (by decide) rfl ?_
  refine srun_sound 300 _ _ _ _ ?_
  by_cases hbig : 3000 < xs.length + ys.length
  ·obtain rfl := hQ.out hbig
   have d1 : decide (((xs.length + ys.length : Nat) : Int) > 3000) = true := dcT (by omega)
   have d2 : decide ((3000 : Int) < ((xs.length + ys.length : Nat) : Int)) = true := dcT (by omega)
   have d3 : decide ((2 : Int) = 2) = true := rfl
   clear hF hQ hbig
   repeat' (first
    | (simp -implicitDefEqProofs only [*,addFp_wr,List.length_map,zr,Nat.reduceAdd,Nat.reduceSub,Nat.reduceMul,Nat.reduceLT,Nat.reduceLeDiff,Nat.reduceEqDiff,Nat.reduceBEq,reduceIte,reduceCtorEq,Int.reduceLE,Int.reduceLT,Int.reduceToNat,Int.reduceEq,Int.reduceNe])
    | ((first|apply zk0|apply zk1|apply zk2|apply zk3|apply zk4|apply zk5|apply zk6|apply zk7|apply zk8|apply zk9) <;> intro hc)
    |(refine callP0 rfl ?_)
    |(refine callD0 rfl ?_)
    |(refine cP (kC.out) ?_)
    |(refine cD (kC.out) ?_)
    |(refine cF (kC.out) ?_)
    |(refine cP (k3.out) ?_)
    |(refine cD (k3.out) ?_)
    |(refine cF (k3.out) ?_)
    |(refine cP (awake_f) ?_)
    |(refine cD (awake_f) ?_)
    |(refine cF (awake_f) ?_)
    | fail)
   exact ret_v
  ·obtain rfl := hF.out (by omega)
   have d1 : decide (((xs.length + ys.length : Nat) : Int) > 3000) = false := dcF (by omega)
   have d2 : decide ((3000 : Int) < ((xs.length + ys.length : Nat) : Int)) = false := dcF (by omega)
   have d3 : decide (f = f) = true := by simp
   clear hF hQ hbig
   repeat' (first
    | (simp -implicitDefEqProofs only [*,addFp_wr,List.length_map,zr,Nat.reduceAdd,Nat.reduceSub,Nat.reduceMul,Nat.reduceLT,Nat.reduceLeDiff,Nat.reduceEqDiff,Nat.reduceBEq,reduceIte,reduceCtorEq,Int.reduceLE,Int.reduceLT,Int.reduceToNat,Int.reduceEq,Int.reduceNe])
    | ((first|apply zk0|apply zk1|apply zk2|apply zk3|apply zk4|apply zk5|apply zk6|apply zk7|apply zk8|apply zk9) <;> intro hc)
    |(refine callP0 rfl ?_)
    |(refine callD0 rfl ?_)
    |(refine cP (kC.out) ?_)
    |(refine cD (kC.out) ?_)
    |(refine cF (kC.out) ?_)
    |(refine cP (k3.out) ?_)
    |(refine cD (k3.out) ?_)
    |(refine cF (k3.out) ?_)
    |(refine cP (awake_f) ?_)
    |(refine cD (awake_f) ?_)
    |(refine cF (awake_f) ?_)
    | fail)
   exact ret_v
 have k3 := Follow_yes c (xs ++ ys) hb hxy h3
 have h2 : folErr (fol c xs).1 ys = 0 := by
  rw [e1] at h3
  split at h3
  ·rename_i hle
   rw [e2 hle];exact h3
  ·cases h3
 have hle : xs.length + ys.length ≤ 3000 := by
  rw [e1] at h3
  split at h3
  ·assumption
  ·cases h3
 have k2 := Follow_yes (fol c xs).1 ys hBP hy h2
 obtain ⟨g4,g5,g6⟩ := folErr_zero h2
 have hLs2 := fol_len g6
 have hA2 := fol_ok (l := ys) g4 hy
 rw [happ] at k3
 dsimp only at k3
 have hQR := sb_right (right_iff.1 (fol_right (l := ys) g4))
 have kS := Same_f (fol (fol c xs).1 ys).1 (fol (fol c xs).1 ys).1 hQR
 rw [show decide ((fol (fol c xs).1 ys).1 = (fol (fol c xs).1 ys).1) = true by simp] at kS
 generalize fol (fol c xs).1 ys = q at *
 generalize fol c xs = p at *
 obtain ⟨⟨xr,xl,B,E⟩,A,ft⟩ := p
 obtain ⟨⟨qr,ql,qB,qE⟩,A2,ft2⟩ := q
 dsimp only at hA1 hA2 hLs hLs2 k1 k2 k3 kS
 have kA := SameAnswers_f (A ++ A2) (A ++ A2) (by rw [List.length_append];omega) rfl fun k a b h1 h2 => by
  obtain rfl := Option.some.inj (h1.symm.trans h2)
  rcases List.mem_append.1 (List.mem_of_getElem? h1) with h | h
  ·exact sameA_of (hA1 a h)
  ·exact sameA_of (hA2 a h)
 have kD := concatA_z [[.fr 3 (A.map fAns)],[.fr 3 (A2.map fAns)]] A A2 rfl rfl rfl (by omega)
 have d1 : decide (((xs.length + ys.length : Nat) : Int) > 3000) = false := dcF (by omega)
 have d2 : decide ((3000 : Int) < ((xs.length + ys.length : Nat) : Int)) = false := dcF (by omega)
 clear hb hx hy hn g1 g2 g3 hP hxy hLs hA1 happ e1 e2 hBP h1 h2 h3 hle g4 g5 g6 hLs2 hA2 hQR
 obtain ⟨room,lease,bl,en⟩ := c
 refine FCall.of_ax low_law7_CacheFollowsOn ?_
 dsimp only [l_law7_CacheFollowsOn,aCache,zRs2,rcCache,frEvs,frAns] at k1 k2 k3 kC kD kA kS ⊢
 refine srun_sound 300 _ _ _ _ ?_
 replace k1 := hide k1
 replace k2 := hide k2
 replace k3 := hide k3
 replace kC := hide kC
 replace kD := hide kD
 replace kA := hide kA
 replace kS := hide kS
 repeat' (first
  | (simp -implicitDefEqProofs only [*,addFp_wr,zr,Nat.reduceAdd,Nat.reduceSub,Nat.reduceMul,Nat.reduceLT,Nat.reduceLeDiff,Nat.reduceEqDiff,Nat.reduceBEq,reduceIte,reduceCtorEq,Int.reduceLE,Int.reduceLT,Int.reduceToNat,Int.reduceEq,Int.reduceNe])
  | ((first|apply zk0|apply zk1|apply zk2|apply zk3|apply zk4|apply zk5|apply zk6|apply zk7|apply zk8|apply zk9) <;> intro hc)
  |(refine callP0 rfl ?_)
  |(refine callD0 rfl ?_)
  |(refine cP (k1.out) ?_)
  |(refine cD (k1.out) ?_)
  |(refine cF (k1.out) ?_)
  | fail)
 refine callPm_ 14 k2.out rfl rfl (LeL.refl _) (by rfl) (by simp [nextSs,nextCs,nextC]) ?_
 simp -implicitDefEqProofs only [addFp_wr,zr,Nat.reduceAdd,Nat.reduceSub,Nat.reduceMul,Nat.reduceLT,Nat.reduceLeDiff,Nat.reduceEqDiff,Nat.reduceBEq,reduceIte,reduceCtorEq,Int.reduceLE,Int.reduceLT,Int.reduceToNat,Int.reduceEq,Int.reduceNe]
 refine ax_dbuildF [.fr 6 (xs.map fEv),.fr 6 (ys.map fEv)] rfl (by decide) rfl ?_
 refine srun_sound 300 _ _ _ _ ?_
 repeat' (first
  | (simp -implicitDefEqProofs only [*,addFp_wr,List.length_map,zr,Nat.reduceAdd,Nat.reduceSub,Nat.reduceMul,Nat.reduceLT,Nat.reduceLeDiff,Nat.reduceEqDiff,Nat.reduceBEq,reduceIte,reduceCtorEq,Int.reduceLE,Int.reduceLT,Int.reduceToNat,Int.reduceEq,Int.reduceNe])
  | ((first|apply zk0|apply zk1|apply zk2|apply zk3|apply zk4|apply zk5|apply zk6|apply zk7|apply zk8|apply zk9) <;> intro hc)
  |(refine callP0 rfl ?_)
  |(refine callD0 rfl ?_)
  |(refine cP (kC.out) ?_)
  |(refine cD (kC.out) ?_)
  |(refine cF (kC.out) ?_)
  |(refine cP (k3.out) ?_)
  |(refine cD (k3.out) ?_)
  |(refine cF (k3.out) ?_)
  | fail)
 refine callPm_ 3 kS.out rfl rfl (LeL.refl _) (by rfl) (by simp [nextSs,nextCs,nextC]) ?_
 simp -implicitDefEqProofs only [addFp_wr,zr,Nat.reduceAdd,Nat.reduceSub,Nat.reduceMul,Nat.reduceLT,Nat.reduceLeDiff,Nat.reduceEqDiff,Nat.reduceBEq,reduceIte,reduceCtorEq,Int.reduceLE,Int.reduceLT,Int.reduceToNat,Int.reduceEq,Int.reduceNe]
 refine ax_buildF [.fr 3 (A.map fAns),.fr 3 (A2.map fAns)] rfl (by decide) rfl ?_
 refine srun_sound 300 _ _ _ _ ?_
 repeat' (first
  | (simp -implicitDefEqProofs only [*,addFp_wr,zr,Nat.reduceAdd,Nat.reduceSub,Nat.reduceMul,Nat.reduceLT,Nat.reduceLeDiff,Nat.reduceEqDiff,Nat.reduceBEq,reduceIte,reduceCtorEq,Int.reduceLE,Int.reduceLT,Int.reduceToNat,Int.reduceEq,Int.reduceNe])
  | ((first|apply zk0|apply zk1|apply zk2|apply zk3|apply zk4|apply zk5|apply zk6|apply zk7|apply zk8|apply zk9) <;> intro hc)
  |(refine callP0 rfl ?_)
  |(refine callD0 rfl ?_)
  |(refine cP (kD.out) ?_)
  |(refine cD (kD.out) ?_)
  |(refine cF (kD.out) ?_)
  |(refine cP (kA.out) ?_)
  |(refine cD (kA.out) ?_)
  |(refine cF (kA.out) ?_)
  |(refine cP (awake_f) ?_)
  |(refine cD (awake_f) ?_)
  |(refine cF (awake_f) ?_)
  | fail)
 exact ret_v
abbrev rEv : Rep Ev := rPair (rI .i64) (rPair (rI .i64) (rPair rStr (rPair (rSl 1 16 rStr) (rPair rStr (rI .i64)))))
theorem fz_ev : Fz rEv 6 fEv := fz_pair fz_int len_i (fz_pair fz_int len_i (fz_pair fz_str len_s (fz_pair fz_strs len_sl (fz_pair fz_str len_s fz_int))))
theorem fz_evs : Fz (rSl 6 80 rEv) 1 (fun l => [frEvs l]) := fz_sl fz_ev
theorem ev_bound {w : World} {B : Nat} {e : Ev} {cs : List Value} (h : rEv w B e cs) : (e.2.2.2.1.length : Int) ≤ 9223372036854775807 := by
 obtain ⟨_,_,_,_,_,_,_,_,_,_,_,_,_,_,_,h,_⟩ := h
 exact h.all.1
theorem evs_bound {w : World} {B : Nat} {l : List Ev} {cs : List Value} (h : rSl 6 80 rEv w B l cs) : ∀ e ∈ l,(e.2.2.2.1.length : Int) ≤ 9223372036854775807 := fun e he => by
 obtain ⟨vs,h2⟩ := h.all.2 e he
 exact ev_bound h2
theorem args3q {G : Ghost} {Z : Nat → Prop} {w : World} {a b c : AV} {u v x : Value} (h1 : RepA G Z w a u) (h2 : RepA G Z w b v) (h3 : RepA G Z w c x) : ∀ (j : Nat) (s : AV) (z : Value),[a,b,c][j]? = some s → (#[u,v,x] : Array Value)[j]? = some z → RepA G Z w s z := by
 intro j s z hy hz
 rcases j with _ | _ | _ | j
 ·obtain rfl := Option.some.inj hy;simp at hz;subst hz;exact h1
 ·obtain rfl := Option.some.inj hy;simp at hz;subst hz;exact h2
 ·obtain rfl := Option.some.inj hy;simp at hz;subst hz;exact h3
 ·simp at hy
theorem followsOn_any (cs : List Value) (c : Cache) (A : Option Addr) (n k : Nat) (l : List Ev) (A2 : Option Addr) (n2 k2 : Nat) (m : List Ev) (W : World) (h : rCache W W.heap.size c cs) (hr : rSl 6 80 rEv W W.heap.size l [.slice A n k]) (hr2 : rSl 6 80 rEv W W.heap.size m [.slice A2 n2 k2]) (t1 : n * 80 ≤ 140737488351232) (t2 : n2 * 80 ≤ 140737488351232) : Calls Tryd.prog 3 #[.agg cs.toArray,.slice A n k,.slice A2 n2 k2] W fun e w' => e = .returned (.bool true) ∧ Below W.heap.size W w' :=
 (followsOn_law c l m (cache_bound h).1 (evs_bound hr) (evs_bound hr2) (by rw [hr.len,hr2.len];omega)).callsA rfl (args3q (fz_cache.agg len_cache h) (.f (fz_evs.one (a := frEvs) hr)) (.f (fz_evs.one (a := frEvs) hr2)))
end Go.Proofs.YtfajjcmagngfiaaDoor
