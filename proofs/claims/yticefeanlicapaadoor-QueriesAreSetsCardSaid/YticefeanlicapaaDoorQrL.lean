/-
  The law QueriesAreSets on the machine. No statement of the seat is proved here; no conditions.
-/
import Derived.Test.YticefeanlicapaaDoorQrF
import Derived.Test.YticefeanlicapaaDoorGrI
namespace Go.Proofs.YticefeanlicapaaDoor
open Go.RowKit Go.Shelf
set_option linter.unusedVariables false
set_option linter.unusedSimpArgs false
set_option maxRecDepth 100000

instance memB (s : ByteArray) (l : List ByteArray) : Decidable (s ∈ l) := @List.instDecidableMemOfLawfulBEq ByteArray instBEqOfDecidableEq inferInstance s l
theorem ix_mem {l : List ByteArray} {s : ByteArray} : decide (0 ≤ ixS l s) = decide (s ∈ l) := by
 by_cases h : s ∈ l
 ·rw [decide_eq_true h,decide_eq_true_eq,ixS]
  cases e : l.findIdx? fun x => decide (s = x) with
  | none => rw [List.findIdx?_eq_none_iff] at e;have := e s h;simp at this
  | some k => exact Int.natCast_nonneg k
 ·rw [decide_eq_false h,decide_eq_false_iff_not,ixS_none (fun k y hk hy => decide_eq_false fun e => h (by rw [e];exact List.mem_of_getElem? hy))];decide
theorem lab_inj {g : Graph} (hg : GOk g) {i j : Nat} (hi : i < g.length) (hj : j < g.length) (h : labN g i = labN g j) : i = j := by
 obtain ⟨x,hx⟩ := get_some hi
 obtain ⟨y,hy⟩ := get_some hj
 rw [labN_of hx,labN_of hy] at h
 rcases Nat.lt_trichotomy i j with h1 | h1 | h1
 ·have := hg.rising i j x y h1 hx hy;dsimp only at this;rw [h,strLt_irrefl] at this;cases this
 ·exact h1
 ·have := hg.rising j i y x h1 hy hx;dsimp only at this;rw [h,strLt_irrefl] at this;cases this
theorem lab_mem {g : Graph} (hg : GOk g) {L : List Nat} (hL : ∀ k ∈ L,k < g.length) {i : Nat} (hi : i < g.length) : labN g i ∈ L.map (labN g) ↔ i ∈ L := by
 constructor
 ·intro h
  obtain ⟨j,hj,e⟩ := List.mem_map.1 h
  rw [← lab_inj hg (hL j hj) hi e];exact hj
 ·exact fun h => List.mem_map_of_mem h
theorem ris_len {n : Nat} : ∀ (L : List Nat) (m : Nat),RisN L → (∀ k ∈ L,m ≤ k ∧ k < n) → L.length ≤ n - m
 | [],m,_,_ => Nat.zero_le _
 | a :: l,m,h,hm => by
  obtain ⟨h1,h2⟩ := List.pairwise_cons.1 h
  have ha := hm a List.mem_cons_self
  have := ris_len l (m + 1) h2 fun k hk => ⟨by have := h1 k hk;omega,(hm k (List.mem_cons_of_mem _ hk)).2⟩
  rw [List.length_cons]
  omega
def wantV (s : Nat) (p q : Bool) : Bool := if s = 0 then p || q else if s = 1 then p && !q else p && q
def opV (s : Nat) (A B : List Nat) (i : Nat) : Bool := wantV s (decide (i ∈ A)) (decide (i ∈ B))
theorem sets_plain {g : Graph} (hg : GOk g) {A B : List Nat} (hA : AOk g.length A) (hB : AOk g.length B) (lab : ByteArray) (s : Nat) : decide (lab ∈ ((List.range g.length).filter (opV s A B)).map (labN g)) = wantV s (decide (lab ∈ A.map (labN g))) (decide (lab ∈ B.map (labN g))) := by
 by_cases h : ∃ i,i < g.length ∧ labN g i = lab
 ·obtain ⟨i,hi,rfl⟩ := h
  have e1 : decide (labN g i ∈ A.map (labN g)) = decide (i ∈ A) := by rw [decide_eq_decide];exact lab_mem hg hA.lt hi
  have e2 : decide (labN g i ∈ B.map (labN g)) = decide (i ∈ B) := by rw [decide_eq_decide];exact lab_mem hg hB.lt hi
  rw [e1,e2]
  have e3 : decide (labN g i ∈ ((List.range g.length).filter (opV s A B)).map (labN g)) = decide (i ∈ (List.range g.length).filter (opV s A B)) := by
   rw [decide_eq_decide]
   exact lab_mem hg (fun k hk => List.mem_range.1 (List.mem_filter.1 hk).1) hi
  rw [e3]
  show _ = opV s A B i
  cases hv : opV s A B i with
  | true => rw [decide_eq_true_eq];exact List.mem_filter.2 ⟨List.mem_range.2 hi,hv⟩
  | false => rw [decide_eq_false_iff_not];intro hm;rw [(List.mem_filter.1 hm).2] at hv;cases hv
 ·have n1 : ∀ L : List Nat,(∀ k ∈ L,k < g.length) → decide (lab ∈ L.map (labN g)) = false := fun L hL => by
   rw [decide_eq_false_iff_not]
   intro hm
   obtain ⟨j,hj,e⟩ := List.mem_map.1 hm
   exact h ⟨j,hL j hj,e⟩
  rw [n1 A hA.lt,n1 B hB.lt,n1 _ (fun k hk => List.mem_range.1 (List.mem_filter.1 hk).1)]
  unfold wantV
  split
  ·rfl
  split <;> rfl
def QK (s : Nat) (a b : QT) : QT := .mk (8 + s) ⟨#[]⟩ 0 [a,b]
theorem QK_ck {s : Nat} (hs : s < 3) {a b : QT} (ha : ckQ a = 0) (hb : ckQ b = 0) : ckQ (QK s a b) = 0 := by
 have hz : ckQs [a,b] = 0 := ckQs_zero.2 fun p hp => by
  simp only [List.mem_cons,List.not_mem_nil,or_false] at hp
  rcases hp with rfl | rfl
  ·exact ha
  ·exact hb
 rcases s with _ | _ | _ | s
 ·show ckQ (.mk 8 ⟨#[]⟩ 0 [a,b]) = 0
  rw [ckQ,hz];rfl
 ·show ckQ (.mk 9 ⟨#[]⟩ 0 [a,b]) = 0
  rw [ckQ,hz];rfl
 ·show ckQ (.mk 10 ⟨#[]⟩ 0 [a,b]) = 0
  rw [ckQ,hz];rfl
 ·omega
theorem ckTop_ck {q : QT} (h : ckTop q = 0) : ckQ q = 0 := by
 unfold ckTop at h
 split at h
 ·cases h
 ·exact h
theorem tree_ok {g : Graph} (h : treeErr g = 0) : GOk g := by
 unfold treeErr at h
 by_cases h0 : opErr g = 0
 ·exact gok_of h0
 ·rw [if_pos h0] at h;exact absurd h h0
theorem part_ex (g : Graph) (hb : GBound g) (q : QT) (hq : QB q) : ∃ x : Int × List Nat,treeErr g = 0 → ckTop q = 0 → FRet Tryd.prog 9 [.f (netOf g),aQ q] (ansR x) ∧ (x.1 = 0 → AOk g.length x.2) := by
 by_cases h : treeErr g = 0 ∧ ckTop q = 0
 ·have hg := tree_ok h.1
  obtain ⟨x,h1,h2⟩ := answer_ex g (allDeps g) (usersOf g) hg (net_ok hg) (fun n hn => (hb.2 n hn).1) q hq (ckTop_ck h.2)
  exact ⟨x,fun _ _ => ⟨h1,h2⟩⟩
 ·exact ⟨(0,[]),fun h1 h2 => absurd ⟨h1,h2⟩ h⟩
theorem union_ex (g : Graph) (hb : GBound g) (a b : QT) (ha : QB a) (hbq : QB b) (ht : treeErr g = 0) (hca : ckTop a = 0) (hcb : ckTop b = 0) (A B : List Nat) (kA : FRet Tryd.prog 9 [.f (netOf g),aQ a] (ansR (0,A))) (kB : FRet Tryd.prog 9 [.f (netOf g),aQ b] (ansR (0,B))) (hA : AOk g.length A) (hB : AOk g.length B) (lab : ByteArray) (s : Nat) (hs : s < 3) :
  ∃ y : Int × List ByteArray,FRet Tryd.prog 4 [.f (frNodes g),aQ (QK s a b)] (ansS y) ∧ (y.1 = 2 ∨ y.1 = 0 ∧ y.2.length ≤ 1000 ∧ decide (0 ≤ ixS y.2 lab) = wantV s (decide (lab ∈ A.map (labN g))) (decide (lab ∈ B.map (labN g)))) := by
 have hg := tree_ok ht
 have hck := QK_ck hs (ckTop_ck hca) (ckTop_ck hcb)
 have hQB : QB (QK s a b) := by
  unfold QK
  rw [QB]
  exact ⟨⟨by show ((0 : Nat) : Int) ≤ _;decide,by show ((2 : Nat) : Int) ≤ _;decide⟩,ha,hbq,trivial⟩
 have hop : ansF g (allDeps g) (usersOf g) (8 + s) ⟨#[]⟩ 0 [(0,A),(0,B)] = (0,(List.range g.length).filter (opV s A B)) := by
  rcases s with _ | _ | _ | s
  ·rfl
  ·rfl
  ·rfl
  ·omega
 have kU := answer_f g (allDeps g) (usersOf g) hg (net_ok hg) (fun n hn => (hb.2 n hn).1) (8 + s) ⟨#[]⟩ 0 [a,b] ⟨by show ((0 : Nat) : Int) ≤ _;decide,by show ((2 : Nat) : Int) ≤ _;decide⟩ hck [(0,A),(0,B)] rfl (fun m p x hp hx => by
   rcases m with _ | _ | m
   ·simp at hp hx;subst hp hx;exact kA
   ·simp at hp hx;subst hp hx;exact kB
   ·simp at hp) (fun x hx h0 => by
   simp only [List.mem_cons,List.not_mem_nil,or_false] at hx
   rcases hx with rfl | rfl
   ·exact hA
   ·exact hB)
 rw [hop] at kU
 have hF := filt_ok hg.len (opV s A B)
 have kZ := Answer_f g hb (QK s a b) hQB (0,(List.range g.length).filter (opV s A B)) (fun _ _ => ⟨kU,fun _ => hF⟩)
 refine ⟨_,kZ,?_⟩
 unfold AnsV
 rw [if_neg (fun h => h ht)]
 by_cases hc : ckTop (QK s a b) = 0
 ·rw [if_neg (fun h => h hc),if_neg (fun h => h rfl)]
  refine .inr ⟨rfl,?_,?_⟩
  ·have := filt_len (opV s A B) g.length
   have := hg.len
   show (((List.range g.length).filter (opV s A B)).map (labN g)).length ≤ 1000
   rw [List.length_map];omega
  ·rw [ix_mem];exact sets_plain hg hA hB lab s
 ·rw [if_pos hc]
  refine .inl ?_
  show ckTop (QK s a b) = 2
  unfold ckTop at hc ⊢
  split
  ·rfl
  ·rename_i h1
   rw [if_neg h1] at hc
   exact absurd hck hc
theorem encQ_len : ∀ q : QT,(encQ q).length = 4
 | .mk _ _ _ _ => rfl
def kq (s : Nat) : Int := 8 + s
set_option maxHeartbeats 4000000 in
theorem sets_law_f (g : Graph) (hb : GBound g) (a b : QT) (ha : QB a) (hbq : QB b) (lab : ByteArray) : FRet Tryd.prog 3 [.f (frNodes g),aQ a,aQ b,.f (.str lab)] [.c (.v (.bool true))] := by
 obtain ⟨xa,hxa⟩ := part_ex g hb a ha
 obtain ⟨xb,hxb⟩ := part_ex g hb b hbq
 have kA := Answer_f g hb a ha xa hxa
 have kB := Answer_f g hb b hbq xb hxb
 have kS : (AnsV g a xa).1 = 0 → (AnsV g b xb).1 = 0 → (AnsV g a xa).2.length ≤ 1000 ∧ (AnsV g b xb).2.length ≤ 1000 ∧ ∀ s,s < 3 → ∃ y : Int × List ByteArray,FRet Tryd.prog 4 [.f (frNodes g),aQ (QK s a b)] (ansS y) ∧ (y.1 = 2 ∨ y.1 = 0 ∧ y.2.length ≤ 1000 ∧ decide (0 ≤ ixS y.2 lab) = wantV s (decide (0 ≤ ixS (AnsV g a xa).2 lab)) (decide (0 ≤ ixS (AnsV g b xb).2 lab))) := fun h1 h2 => by
  have st : ∀ q (x : Int × List Nat),(AnsV g q x).1 = 0 → treeErr g = 0 ∧ ckTop q = 0 ∧ x.1 = 0 ∧ (AnsV g q x).2 = x.2.map (labN g) := fun q x h => by
   unfold AnsV at h ⊢
   by_cases c1 : treeErr g = 0
   case neg => rw [if_pos c1] at h;exact absurd h c1
   rw [if_neg (fun hh => hh c1)] at h ⊢
   by_cases c2 : ckTop q = 0
   case neg => rw [if_pos c2] at h;exact absurd h c2
   rw [if_neg (fun hh => hh c2)] at h ⊢
   by_cases c3 : x.1 = 0
   case neg => rw [if_pos c3] at h;exact absurd h c3
   rw [if_neg (fun hh => hh c3)]
   exact ⟨c1,c2,c3,rfl⟩
  obtain ⟨t1,t2,t3,t4⟩ := st a xa h1
  obtain ⟨u1,u2,u3,u4⟩ := st b xb h2
  obtain ⟨p1,p2⟩ := hxa t1 t2
  obtain ⟨q1,q2⟩ := hxb t1 u2
  obtain ⟨fa,A⟩ := xa
  obtain ⟨fb,B⟩ := xb
  dsimp only at t3 u3 p2 q2 t4 u4
  subst t3 u3
  have hA := p2 rfl
  have hB := q2 rfl
  have hgl := (tree_ok t1).len
  have lenL : ∀ L,AOk g.length L → L.length ≤ 1000 := fun L hL => by
   have hsub := ris_len (n := g.length) L 0 hL.ris (fun k hk => ⟨Nat.zero_le _,hL.lt k hk⟩)
   omega
  rw [t4,u4]
  refine ⟨by rw [List.length_map];exact lenL A hA,by rw [List.length_map];exact lenL B hB,fun s hs => ?_⟩
  rw [ix_mem,ix_mem]
  exact union_ex g hb a b ha hbq t1 t2 u2 A B p1 q1 hA hB lab s hs
 clear hxa hxb
 generalize AnsV g a xa = ya at *
 generalize AnsV g b xb = yb at *
 obtain ⟨ea,la⟩ := ya
 obtain ⟨eb,lb⟩ := yb
 refine FCall.of_ax low_law4_QueriesAreSets ?_
 obtain ⟨ak,at_,an,aps⟩ := a
 obtain ⟨bk,bt,bn,bps⟩ := b
 dsimp only [l_law4_QueriesAreSets,aQ,encQ,List.map,ansS] at kA kB ⊢
 dsimp only at kS
 have hz0 : decide ((((0 : Nat) : Nat) : Int) = 0) = true := by decide
 by_cases h1 : ea = 0
 case neg =>
  rw [if_neg h1] at kA
  have d1 := dcF h1
  clear kS
  replace h1 := hide h1
  by_cases h2 : eb = 0
  ·rw [if_pos h2] at kB
   have d2 := dcT h2
   replace h2 := hide h2
   generalize frStrs lb = fb at *
   refine srun_sound 300 _ _ _ _ ?_
   repeat' (first
    | (simp -implicitDefEqProofs only [*,zr,Nat.reduceAdd,Nat.reduceSub,Nat.reduceMul,Nat.reduceLT,Nat.reduceLeDiff,Nat.reduceEqDiff,Nat.reduceBEq,reduceIte,reduceCtorEq,Int.reduceLE,Int.reduceLT,Int.reduceToNat,Int.reduceEq,Int.reduceNe])
    | ((first|apply zk0|apply zk1|apply zk2|apply zk3|apply zk4|apply zk5|apply zk6|apply zk7|apply zk8|apply zk9) <;> intro hc)
    |(refine callP0 rfl ?_)
    |(refine callD0 rfl ?_)
    |(refine cP (kA) ?_)
    |(refine cD (kA) ?_)
    |(refine cF (kA) ?_)
    |(refine cP (kB) ?_)
    |(refine cD (kB) ?_)
    |(refine cF (kB) ?_)
    |(refine cP (awake_f) ?_)
    |(refine cD (awake_f) ?_)
    |(refine cF (awake_f) ?_)
    | fail)
   exact ret_v
  ·rw [if_neg h2] at kB
   have d2 := dcF h2
   replace h2 := hide h2
   refine srun_sound 300 _ _ _ _ ?_
   repeat' (first
    | (simp -implicitDefEqProofs only [*,zr,Nat.reduceAdd,Nat.reduceSub,Nat.reduceMul,Nat.reduceLT,Nat.reduceLeDiff,Nat.reduceEqDiff,Nat.reduceBEq,reduceIte,reduceCtorEq,Int.reduceLE,Int.reduceLT,Int.reduceToNat,Int.reduceEq,Int.reduceNe])
    | ((first|apply zk0|apply zk1|apply zk2|apply zk3|apply zk4|apply zk5|apply zk6|apply zk7|apply zk8|apply zk9) <;> intro hc)
    |(refine callP0 rfl ?_)
    |(refine callD0 rfl ?_)
    |(refine cP (kA) ?_)
    |(refine cD (kA) ?_)
    |(refine cF (kA) ?_)
    |(refine cP (kB) ?_)
    |(refine cD (kB) ?_)
    |(refine cF (kB) ?_)
    |(refine cP (awake_f) ?_)
    |(refine cD (awake_f) ?_)
    |(refine cF (awake_f) ?_)
    | fail)
   exact ret_v
 rw [if_pos h1] at kA
 have d1 := dcT h1
 by_cases h2 : eb = 0
 case neg =>
  rw [if_neg h2] at kB
  have d2 := dcF h2
  clear kS
  replace h1 := hide h1
  replace h2 := hide h2
  generalize frStrs la = fa at *
  refine srun_sound 300 _ _ _ _ ?_
  repeat' (first
   | (simp -implicitDefEqProofs only [*,zr,Nat.reduceAdd,Nat.reduceSub,Nat.reduceMul,Nat.reduceLT,Nat.reduceLeDiff,Nat.reduceEqDiff,Nat.reduceBEq,reduceIte,reduceCtorEq,Int.reduceLE,Int.reduceLT,Int.reduceToNat,Int.reduceEq,Int.reduceNe])
   | ((first|apply zk0|apply zk1|apply zk2|apply zk3|apply zk4|apply zk5|apply zk6|apply zk7|apply zk8|apply zk9) <;> intro hc)
   |(refine callP0 rfl ?_)
   |(refine callD0 rfl ?_)
   |(refine cP (kA) ?_)
   |(refine cD (kA) ?_)
   |(refine cF (kA) ?_)
   |(refine cP (kB) ?_)
   |(refine cD (kB) ?_)
   |(refine cF (kB) ?_)
   |(refine cP (awake_f) ?_)
   |(refine cD (awake_f) ?_)
   |(refine cF (awake_f) ?_)
   | fail)
  exact ret_v
 rw [if_pos h2] at kB
 obtain ⟨l1,l2,kU⟩ := kS h1 h2
 have cA := contains_fS la lab (by omega)
 have cB := contains_fS lb lab (by omega)
 subst h1 h2
 clear kS d1
 obtain ⟨p,hp⟩ : ∃ p,decide (0 ≤ ixS la lab) = p := ⟨_,rfl⟩
 obtain ⟨q,hq⟩ : ∃ q,decide (0 ≤ ixS lb lab) = q := ⟨_,rfl⟩
 rw [hp] at cA kU
 rw [hq] at cB kU
 replace hp := hide hp
 replace hq := hide hq
 replace kU := hide kU
 generalize frStrs la = fa at *
 generalize frStrs lb = fb at *
 have hone : (frNodes g).isOne = true := rfl
 generalize hnodes : frNodes g = nodes at *
 refine srun_sound 300 _ _ _ _ ?_
 repeat' (first
  | (simp -implicitDefEqProofs only [*,zr,Nat.reduceAdd,Nat.reduceSub,Nat.reduceMul,Nat.reduceLT,Nat.reduceLeDiff,Nat.reduceEqDiff,Nat.reduceBEq,reduceIte,reduceCtorEq,Int.reduceLE,Int.reduceLT,Int.reduceToNat,Int.reduceEq,Int.reduceNe])
  | ((first|apply zk0|apply zk1|apply zk2|apply zk3|apply zk4|apply zk5|apply zk6|apply zk7|apply zk8|apply zk9) <;> intro hc)
  |(refine callP0 rfl ?_)
  |(refine callD0 rfl ?_)
  |(refine cP (kA) ?_)
  |(refine cD (kA) ?_)
  |(refine cF (kA) ?_)
  |(refine cP (kB) ?_)
  |(refine cD (kB) ?_)
  |(refine cF (kB) ?_)
  |(refine cP (cA) ?_)
  |(refine cD (cA) ?_)
  |(refine cF (cA) ?_)
  |(refine cP (cB) ?_)
  |(refine cD (cB) ?_)
  |(refine cF (cB) ?_)
  | fail)
 clear kA kB cA cB
 refine ax_loopU (S := Nat) 104 [0,3,5,6,13,14] [5,6] (fun s => [(15,.f (.int .i64 (kq s)))]) (fun s => []) (fun s => s ≤ 3) (fun s => 3 - s) (0) [] ?_ ?_ fun s hs => ?_
 ·exact Nat.zero_le _
 ·refine wk_i ?_ ?_ <;> simp only [show kq 0 = 8 from rfl,zw,Nat.reduceEqDiff,Nat.reduceBEq,Nat.reduceLT,Nat.reduceLeDiff,reduceIte,reduceCtorEq]
 have e0 : kq 0 = 8 := rfl
 have e1 : kq 1 = 9 := rfl
 have e2 : kq 2 = 10 := rfl
 have e3 : kq 3 = 11 := rfl
 rcases Nat.lt_or_ge s 3 with hlt | hge
 ·obtain ⟨y,kZ,hy⟩ := kU.out s hlt
  have c2 : ∀ _ : y.2.length ≤ 1000,True := fun _ => trivial
  have kC := fun h : y.2.length ≤ 1000 => contains_fS y.2 lab (by omega)
  obtain ⟨e,lz⟩ := y
  dsimp only at hy kC
  clear c2
  have hs3 : s = 0 ∨ s = 1 ∨ s = 2 := by omega
  unfold QK at kZ
  dsimp only [aQ,encQ,encQs,List.map,ansS] at kZ
  rcases hs3 with rfl | rfl | rfl
  ·change FRet _ _ [_,.agg [.f (.int .i64 8),_,_,_]] _ at kZ
   have w1 : IntKind.i64.wrap (kq 0 - 8) = 0 := rfl
   have w2 : IntKind.i64.wrap (kq 0 + 1) = kq 1 := rfl
   have w3 : decide (kq 0 ≤ 10) = true := rfl
   have q3 : ((0 : Int) < ((3 : Nat) : Int)) = True := by simp
   rcases hy with hy | ⟨hy,hyl,hyw⟩
   ·subst hy
    rw [if_neg (show ¬ (2 : Int) = 0 by decide)] at kZ
    clear kC
    refine srun_sound 300 _ _ _ _ ?_
    repeat' (first
     | (simp -implicitDefEqProofs only [*,zr,Nat.reduceAdd,Nat.reduceSub,Nat.reduceMul,Nat.reduceLT,Nat.reduceLeDiff,Nat.reduceEqDiff,Nat.reduceBEq,reduceIte,reduceCtorEq,Int.reduceLE,Int.reduceLT,Int.reduceToNat,Int.reduceEq,Int.reduceNe])
     | ((first|apply zk0|apply zk1|apply zk2|apply zk3|apply zk4|apply zk5|apply zk6|apply zk7|apply zk8|apply zk9) <;> intro hc)
     |(refine callP0 rfl ?_)
     |(refine callD0 rfl ?_)
     | fail)
    refine ax_weakA [] (nw := []) (n := 104) (el := [(0,.f nodes),(3,.f (.str lab)),(5,.ptr 5 1 0),(6,.ptr 6 1 0),(13,.f (.bool p)),(14,.f (.bool q)),(15,.f (.int .i64 8)),(67,.f nodes),(72,.agg [.f (.int .i64 8),.f (.str ⟨#[]⟩),.f (.int .i64 0),.f (.fr 4 [encQ (.mk ak at_ an aps),encQ (.mk bk bt bn bps)])])]) (hl := [(5,1,.cells [.f (.int .i64 ak),.f (.str at_),.f (.int .i64 an),.f (.fr 4 (encQs aps))]),(6,1,.cells [.f (.int .i64 bk),.f (.str bt),.f (.int .i64 bn),.f (.fr 4 (encQs bps))])]) rfl ?_ ?_
    ·refine wk_i ?_ ?_ <;> simp only [so_mf,mapOfH_some,so_ptf,so_cc,so_ff',cellsOf_some,List.drop_zero,List.take_succ_cons,List.take_zero,Nat.zero_add,Nat.le_refl,zw,Nat.reduceEqDiff,Nat.reduceBEq,Nat.reduceLT,Nat.reduceLeDiff,reduceIte,reduceCtorEq]
     exact so_row0 (enc := encQ) (sz := 4) (l := [.mk ak at_ an aps,.mk bk bt bn bps]) encQ_len rfl rfl rfl
    repeat' (first
     | (simp -implicitDefEqProofs only [*,encQ,zr,Nat.reduceAdd,Nat.reduceSub,Nat.reduceMul,Nat.reduceLT,Nat.reduceLeDiff,Nat.reduceEqDiff,Nat.reduceBEq,reduceIte,reduceCtorEq,Int.reduceLE,Int.reduceLT,Int.reduceToNat,Int.reduceEq,Int.reduceNe])
     | ((first|apply zk0|apply zk1|apply zk2|apply zk3|apply zk4|apply zk5|apply zk6|apply zk7|apply zk8|apply zk9) <;> intro hc)
     |(refine callP0 rfl ?_)
     |(refine callD0 rfl ?_)
     |(refine cP (kZ) ?_)
     |(refine cD (kZ) ?_)
     |(refine cF (kZ) ?_)
     | fail)
    refine ⟨1,by omega,by omega,?_⟩
    refine wk_i ?_ ?_ <;> simp only [zw,Nat.reduceEqDiff,Nat.reduceBEq,Nat.reduceLT,Nat.reduceLeDiff,reduceIte,reduceCtorEq]
    all_goals exact rfl
   ·subst hy
    rw [if_pos rfl] at kZ
    have cZ := kC hyl
    rw [hyw] at cZ
    clear kC hyw
    generalize frStrs lz = fz at *
    cases p with
    | true =>
     cases q with
     | true =>
      change FRet _ _ _ [.c (.v (.bool true))] at cZ
      refine srun_sound 300 _ _ _ _ ?_
      repeat' (first
       | (simp -implicitDefEqProofs only [*,zr,Nat.reduceAdd,Nat.reduceSub,Nat.reduceMul,Nat.reduceLT,Nat.reduceLeDiff,Nat.reduceEqDiff,Nat.reduceBEq,reduceIte,reduceCtorEq,Int.reduceLE,Int.reduceLT,Int.reduceToNat,Int.reduceEq,Int.reduceNe])
       | ((first|apply zk0|apply zk1|apply zk2|apply zk3|apply zk4|apply zk5|apply zk6|apply zk7|apply zk8|apply zk9) <;> intro hc)
       |(refine callP0 rfl ?_)
       |(refine callD0 rfl ?_)
       | fail)
      refine ax_weakA [] (nw := []) (n := 104) (el := [(0,.f nodes),(3,.f (.str lab)),(5,.ptr 5 1 0),(6,.ptr 6 1 0),(13,.f (.bool true)),(14,.f (.bool true)),(15,.f (.int .i64 8)),(67,.f nodes),(72,.agg [.f (.int .i64 8),.f (.str ⟨#[]⟩),.f (.int .i64 0),.f (.fr 4 [encQ (.mk ak at_ an aps),encQ (.mk bk bt bn bps)])])]) (hl := [(5,1,.cells [.f (.int .i64 ak),.f (.str at_),.f (.int .i64 an),.f (.fr 4 (encQs aps))]),(6,1,.cells [.f (.int .i64 bk),.f (.str bt),.f (.int .i64 bn),.f (.fr 4 (encQs bps))])]) rfl ?_ ?_
      ·refine wk_i ?_ ?_ <;> simp only [so_mf,mapOfH_some,so_ptf,so_cc,so_ff',cellsOf_some,List.drop_zero,List.take_succ_cons,List.take_zero,Nat.zero_add,Nat.le_refl,zw,Nat.reduceEqDiff,Nat.reduceBEq,Nat.reduceLT,Nat.reduceLeDiff,reduceIte,reduceCtorEq]
       exact so_row0 (enc := encQ) (sz := 4) (l := [.mk ak at_ an aps,.mk bk bt bn bps]) encQ_len rfl rfl rfl
      repeat' (first
       | (simp -implicitDefEqProofs only [*,encQ,zr,Nat.reduceAdd,Nat.reduceSub,Nat.reduceMul,Nat.reduceLT,Nat.reduceLeDiff,Nat.reduceEqDiff,Nat.reduceBEq,reduceIte,reduceCtorEq,Int.reduceLE,Int.reduceLT,Int.reduceToNat,Int.reduceEq,Int.reduceNe])
       | ((first|apply zk0|apply zk1|apply zk2|apply zk3|apply zk4|apply zk5|apply zk6|apply zk7|apply zk8|apply zk9) <;> intro hc)
       |(refine callP0 rfl ?_)
       |(refine callD0 rfl ?_)
       |(refine cP (kZ) ?_)
       |(refine cD (kZ) ?_)
       |(refine cF (kZ) ?_)
       |(refine cP (cZ) ?_)
       |(refine cD (cZ) ?_)
       |(refine cF (cZ) ?_)
       | fail)
      refine ⟨1,by omega,by omega,?_⟩
      refine wk_i ?_ ?_ <;> simp only [zw,Nat.reduceEqDiff,Nat.reduceBEq,Nat.reduceLT,Nat.reduceLeDiff,reduceIte,reduceCtorEq]
      all_goals exact rfl
     | false =>
      change FRet _ _ _ [.c (.v (.bool true))] at cZ
      refine srun_sound 300 _ _ _ _ ?_
      repeat' (first
       | (simp -implicitDefEqProofs only [*,zr,Nat.reduceAdd,Nat.reduceSub,Nat.reduceMul,Nat.reduceLT,Nat.reduceLeDiff,Nat.reduceEqDiff,Nat.reduceBEq,reduceIte,reduceCtorEq,Int.reduceLE,Int.reduceLT,Int.reduceToNat,Int.reduceEq,Int.reduceNe])
       | ((first|apply zk0|apply zk1|apply zk2|apply zk3|apply zk4|apply zk5|apply zk6|apply zk7|apply zk8|apply zk9) <;> intro hc)
       |(refine callP0 rfl ?_)
       |(refine callD0 rfl ?_)
       | fail)
      refine ax_weakA [] (nw := []) (n := 104) (el := [(0,.f nodes),(3,.f (.str lab)),(5,.ptr 5 1 0),(6,.ptr 6 1 0),(13,.f (.bool true)),(14,.f (.bool false)),(15,.f (.int .i64 8)),(67,.f nodes),(72,.agg [.f (.int .i64 8),.f (.str ⟨#[]⟩),.f (.int .i64 0),.f (.fr 4 [encQ (.mk ak at_ an aps),encQ (.mk bk bt bn bps)])])]) (hl := [(5,1,.cells [.f (.int .i64 ak),.f (.str at_),.f (.int .i64 an),.f (.fr 4 (encQs aps))]),(6,1,.cells [.f (.int .i64 bk),.f (.str bt),.f (.int .i64 bn),.f (.fr 4 (encQs bps))])]) rfl ?_ ?_
      ·refine wk_i ?_ ?_ <;> simp only [so_mf,mapOfH_some,so_ptf,so_cc,so_ff',cellsOf_some,List.drop_zero,List.take_succ_cons,List.take_zero,Nat.zero_add,Nat.le_refl,zw,Nat.reduceEqDiff,Nat.reduceBEq,Nat.reduceLT,Nat.reduceLeDiff,reduceIte,reduceCtorEq]
       exact so_row0 (enc := encQ) (sz := 4) (l := [.mk ak at_ an aps,.mk bk bt bn bps]) encQ_len rfl rfl rfl
      repeat' (first
       | (simp -implicitDefEqProofs only [*,encQ,zr,Nat.reduceAdd,Nat.reduceSub,Nat.reduceMul,Nat.reduceLT,Nat.reduceLeDiff,Nat.reduceEqDiff,Nat.reduceBEq,reduceIte,reduceCtorEq,Int.reduceLE,Int.reduceLT,Int.reduceToNat,Int.reduceEq,Int.reduceNe])
       | ((first|apply zk0|apply zk1|apply zk2|apply zk3|apply zk4|apply zk5|apply zk6|apply zk7|apply zk8|apply zk9) <;> intro hc)
       |(refine callP0 rfl ?_)
       |(refine callD0 rfl ?_)
       |(refine cP (kZ) ?_)
       |(refine cD (kZ) ?_)
       |(refine cF (kZ) ?_)
       |(refine cP (cZ) ?_)
       |(refine cD (cZ) ?_)
       |(refine cF (cZ) ?_)
       | fail)
      refine ⟨1,by omega,by omega,?_⟩
      refine wk_i ?_ ?_ <;> simp only [zw,Nat.reduceEqDiff,Nat.reduceBEq,Nat.reduceLT,Nat.reduceLeDiff,reduceIte,reduceCtorEq]
      all_goals exact rfl
    | false =>
     cases q with
     | true =>
      change FRet _ _ _ [.c (.v (.bool true))] at cZ
      refine srun_sound 300 _ _ _ _ ?_
      repeat' (first
       | (simp -implicitDefEqProofs only [*,zr,Nat.reduceAdd,Nat.reduceSub,Nat.reduceMul,Nat.reduceLT,Nat.reduceLeDiff,Nat.reduceEqDiff,Nat.reduceBEq,reduceIte,reduceCtorEq,Int.reduceLE,Int.reduceLT,Int.reduceToNat,Int.reduceEq,Int.reduceNe])
       | ((first|apply zk0|apply zk1|apply zk2|apply zk3|apply zk4|apply zk5|apply zk6|apply zk7|apply zk8|apply zk9) <;> intro hc)
       |(refine callP0 rfl ?_)
       |(refine callD0 rfl ?_)
       | fail)
      refine ax_weakA [] (nw := []) (n := 104) (el := [(0,.f nodes),(3,.f (.str lab)),(5,.ptr 5 1 0),(6,.ptr 6 1 0),(13,.f (.bool false)),(14,.f (.bool true)),(15,.f (.int .i64 8)),(67,.f nodes),(72,.agg [.f (.int .i64 8),.f (.str ⟨#[]⟩),.f (.int .i64 0),.f (.fr 4 [encQ (.mk ak at_ an aps),encQ (.mk bk bt bn bps)])])]) (hl := [(5,1,.cells [.f (.int .i64 ak),.f (.str at_),.f (.int .i64 an),.f (.fr 4 (encQs aps))]),(6,1,.cells [.f (.int .i64 bk),.f (.str bt),.f (.int .i64 bn),.f (.fr 4 (encQs bps))])]) rfl ?_ ?_
      ·refine wk_i ?_ ?_ <;> simp only [so_mf,mapOfH_some,so_ptf,so_cc,so_ff',cellsOf_some,List.drop_zero,List.take_succ_cons,List.take_zero,Nat.zero_add,Nat.le_refl,zw,Nat.reduceEqDiff,Nat.reduceBEq,Nat.reduceLT,Nat.reduceLeDiff,reduceIte,reduceCtorEq]
       exact so_row0 (enc := encQ) (sz := 4) (l := [.mk ak at_ an aps,.mk bk bt bn bps]) encQ_len rfl rfl rfl
      repeat' (first
       | (simp -implicitDefEqProofs only [*,encQ,zr,Nat.reduceAdd,Nat.reduceSub,Nat.reduceMul,Nat.reduceLT,Nat.reduceLeDiff,Nat.reduceEqDiff,Nat.reduceBEq,reduceIte,reduceCtorEq,Int.reduceLE,Int.reduceLT,Int.reduceToNat,Int.reduceEq,Int.reduceNe])
       | ((first|apply zk0|apply zk1|apply zk2|apply zk3|apply zk4|apply zk5|apply zk6|apply zk7|apply zk8|apply zk9) <;> intro hc)
       |(refine callP0 rfl ?_)
       |(refine callD0 rfl ?_)
       |(refine cP (kZ) ?_)
       |(refine cD (kZ) ?_)
       |(refine cF (kZ) ?_)
       |(refine cP (cZ) ?_)
       |(refine cD (cZ) ?_)
       |(refine cF (cZ) ?_)
       | fail)
      refine ⟨1,by omega,by omega,?_⟩
      refine wk_i ?_ ?_ <;> simp only [zw,Nat.reduceEqDiff,Nat.reduceBEq,Nat.reduceLT,Nat.reduceLeDiff,reduceIte,reduceCtorEq]
      all_goals exact rfl
     | false =>
      change FRet _ _ _ [.c (.v (.bool false))] at cZ
      refine srun_sound 300 _ _ _ _ ?_
      repeat' (first
       | (simp -implicitDefEqProofs only [*,zr,Nat.reduceAdd,Nat.reduceSub,Nat.reduceMul,Nat.reduceLT,Nat.reduceLeDiff,Nat.reduceEqDiff,Nat.reduceBEq,reduceIte,reduceCtorEq,Int.reduceLE,Int.reduceLT,Int.reduceToNat,Int.reduceEq,Int.reduceNe])
       | ((first|apply zk0|apply zk1|apply zk2|apply zk3|apply zk4|apply zk5|apply zk6|apply zk7|apply zk8|apply zk9) <;> intro hc)
       |(refine callP0 rfl ?_)
       |(refine callD0 rfl ?_)
       | fail)
      refine ax_weakA [] (nw := []) (n := 104) (el := [(0,.f nodes),(3,.f (.str lab)),(5,.ptr 5 1 0),(6,.ptr 6 1 0),(13,.f (.bool false)),(14,.f (.bool false)),(15,.f (.int .i64 8)),(67,.f nodes),(72,.agg [.f (.int .i64 8),.f (.str ⟨#[]⟩),.f (.int .i64 0),.f (.fr 4 [encQ (.mk ak at_ an aps),encQ (.mk bk bt bn bps)])])]) (hl := [(5,1,.cells [.f (.int .i64 ak),.f (.str at_),.f (.int .i64 an),.f (.fr 4 (encQs aps))]),(6,1,.cells [.f (.int .i64 bk),.f (.str bt),.f (.int .i64 bn),.f (.fr 4 (encQs bps))])]) rfl ?_ ?_
      ·refine wk_i ?_ ?_ <;> simp only [so_mf,mapOfH_some,so_ptf,so_cc,so_ff',cellsOf_some,List.drop_zero,List.take_succ_cons,List.take_zero,Nat.zero_add,Nat.le_refl,zw,Nat.reduceEqDiff,Nat.reduceBEq,Nat.reduceLT,Nat.reduceLeDiff,reduceIte,reduceCtorEq]
       exact so_row0 (enc := encQ) (sz := 4) (l := [.mk ak at_ an aps,.mk bk bt bn bps]) encQ_len rfl rfl rfl
      repeat' (first
       | (simp -implicitDefEqProofs only [*,encQ,zr,Nat.reduceAdd,Nat.reduceSub,Nat.reduceMul,Nat.reduceLT,Nat.reduceLeDiff,Nat.reduceEqDiff,Nat.reduceBEq,reduceIte,reduceCtorEq,Int.reduceLE,Int.reduceLT,Int.reduceToNat,Int.reduceEq,Int.reduceNe])
       | ((first|apply zk0|apply zk1|apply zk2|apply zk3|apply zk4|apply zk5|apply zk6|apply zk7|apply zk8|apply zk9) <;> intro hc)
       |(refine callP0 rfl ?_)
       |(refine callD0 rfl ?_)
       |(refine cP (kZ) ?_)
       |(refine cD (kZ) ?_)
       |(refine cF (kZ) ?_)
       |(refine cP (cZ) ?_)
       |(refine cD (cZ) ?_)
       |(refine cF (cZ) ?_)
       | fail)
      refine ⟨1,by omega,by omega,?_⟩
      refine wk_i ?_ ?_ <;> simp only [zw,Nat.reduceEqDiff,Nat.reduceBEq,Nat.reduceLT,Nat.reduceLeDiff,reduceIte,reduceCtorEq]
      all_goals exact rfl
  ·change FRet _ _ [_,.agg [.f (.int .i64 9),_,_,_]] _ at kZ
   have w1 : IntKind.i64.wrap (kq 1 - 8) = 1 := rfl
   have w2 : IntKind.i64.wrap (kq 1 + 1) = kq 2 := rfl
   have w3 : decide (kq 1 ≤ 10) = true := rfl
   have q3 : ((1 : Int) < ((3 : Nat) : Int)) = True := by simp
   rcases hy with hy | ⟨hy,hyl,hyw⟩
   ·subst hy
    rw [if_neg (show ¬ (2 : Int) = 0 by decide)] at kZ
    clear kC
    refine srun_sound 300 _ _ _ _ ?_
    repeat' (first
     | (simp -implicitDefEqProofs only [*,zr,Nat.reduceAdd,Nat.reduceSub,Nat.reduceMul,Nat.reduceLT,Nat.reduceLeDiff,Nat.reduceEqDiff,Nat.reduceBEq,reduceIte,reduceCtorEq,Int.reduceLE,Int.reduceLT,Int.reduceToNat,Int.reduceEq,Int.reduceNe])
     | ((first|apply zk0|apply zk1|apply zk2|apply zk3|apply zk4|apply zk5|apply zk6|apply zk7|apply zk8|apply zk9) <;> intro hc)
     |(refine callP0 rfl ?_)
     |(refine callD0 rfl ?_)
     | fail)
    refine ax_weakA [] (nw := []) (n := 104) (el := [(0,.f nodes),(3,.f (.str lab)),(5,.ptr 5 1 0),(6,.ptr 6 1 0),(13,.f (.bool p)),(14,.f (.bool q)),(15,.f (.int .i64 9)),(67,.f nodes),(72,.agg [.f (.int .i64 9),.f (.str ⟨#[]⟩),.f (.int .i64 0),.f (.fr 4 [encQ (.mk ak at_ an aps),encQ (.mk bk bt bn bps)])])]) (hl := [(5,1,.cells [.f (.int .i64 ak),.f (.str at_),.f (.int .i64 an),.f (.fr 4 (encQs aps))]),(6,1,.cells [.f (.int .i64 bk),.f (.str bt),.f (.int .i64 bn),.f (.fr 4 (encQs bps))])]) rfl ?_ ?_
    ·refine wk_i ?_ ?_ <;> simp only [so_mf,mapOfH_some,so_ptf,so_cc,so_ff',cellsOf_some,List.drop_zero,List.take_succ_cons,List.take_zero,Nat.zero_add,Nat.le_refl,zw,Nat.reduceEqDiff,Nat.reduceBEq,Nat.reduceLT,Nat.reduceLeDiff,reduceIte,reduceCtorEq]
     exact so_row0 (enc := encQ) (sz := 4) (l := [.mk ak at_ an aps,.mk bk bt bn bps]) encQ_len rfl rfl rfl
    repeat' (first
     | (simp -implicitDefEqProofs only [*,encQ,zr,Nat.reduceAdd,Nat.reduceSub,Nat.reduceMul,Nat.reduceLT,Nat.reduceLeDiff,Nat.reduceEqDiff,Nat.reduceBEq,reduceIte,reduceCtorEq,Int.reduceLE,Int.reduceLT,Int.reduceToNat,Int.reduceEq,Int.reduceNe])
     | ((first|apply zk0|apply zk1|apply zk2|apply zk3|apply zk4|apply zk5|apply zk6|apply zk7|apply zk8|apply zk9) <;> intro hc)
     |(refine callP0 rfl ?_)
     |(refine callD0 rfl ?_)
     |(refine cP (kZ) ?_)
     |(refine cD (kZ) ?_)
     |(refine cF (kZ) ?_)
     | fail)
    refine ⟨2,by omega,by omega,?_⟩
    refine wk_i ?_ ?_ <;> simp only [zw,Nat.reduceEqDiff,Nat.reduceBEq,Nat.reduceLT,Nat.reduceLeDiff,reduceIte,reduceCtorEq]
    all_goals exact rfl
   ·subst hy
    rw [if_pos rfl] at kZ
    have cZ := kC hyl
    rw [hyw] at cZ
    clear kC hyw
    generalize frStrs lz = fz at *
    cases p with
    | true =>
     cases q with
     | true =>
      change FRet _ _ _ [.c (.v (.bool false))] at cZ
      refine srun_sound 300 _ _ _ _ ?_
      repeat' (first
       | (simp -implicitDefEqProofs only [*,zr,Nat.reduceAdd,Nat.reduceSub,Nat.reduceMul,Nat.reduceLT,Nat.reduceLeDiff,Nat.reduceEqDiff,Nat.reduceBEq,reduceIte,reduceCtorEq,Int.reduceLE,Int.reduceLT,Int.reduceToNat,Int.reduceEq,Int.reduceNe])
       | ((first|apply zk0|apply zk1|apply zk2|apply zk3|apply zk4|apply zk5|apply zk6|apply zk7|apply zk8|apply zk9) <;> intro hc)
       |(refine callP0 rfl ?_)
       |(refine callD0 rfl ?_)
       | fail)
      refine ax_weakA [] (nw := []) (n := 104) (el := [(0,.f nodes),(3,.f (.str lab)),(5,.ptr 5 1 0),(6,.ptr 6 1 0),(13,.f (.bool true)),(14,.f (.bool true)),(15,.f (.int .i64 9)),(67,.f nodes),(72,.agg [.f (.int .i64 9),.f (.str ⟨#[]⟩),.f (.int .i64 0),.f (.fr 4 [encQ (.mk ak at_ an aps),encQ (.mk bk bt bn bps)])])]) (hl := [(5,1,.cells [.f (.int .i64 ak),.f (.str at_),.f (.int .i64 an),.f (.fr 4 (encQs aps))]),(6,1,.cells [.f (.int .i64 bk),.f (.str bt),.f (.int .i64 bn),.f (.fr 4 (encQs bps))])]) rfl ?_ ?_
      ·refine wk_i ?_ ?_ <;> simp only [so_mf,mapOfH_some,so_ptf,so_cc,so_ff',cellsOf_some,List.drop_zero,List.take_succ_cons,List.take_zero,Nat.zero_add,Nat.le_refl,zw,Nat.reduceEqDiff,Nat.reduceBEq,Nat.reduceLT,Nat.reduceLeDiff,reduceIte,reduceCtorEq]
       exact so_row0 (enc := encQ) (sz := 4) (l := [.mk ak at_ an aps,.mk bk bt bn bps]) encQ_len rfl rfl rfl
      repeat' (first
       | (simp -implicitDefEqProofs only [*,encQ,zr,Nat.reduceAdd,Nat.reduceSub,Nat.reduceMul,Nat.reduceLT,Nat.reduceLeDiff,Nat.reduceEqDiff,Nat.reduceBEq,reduceIte,reduceCtorEq,Int.reduceLE,Int.reduceLT,Int.reduceToNat,Int.reduceEq,Int.reduceNe])
       | ((first|apply zk0|apply zk1|apply zk2|apply zk3|apply zk4|apply zk5|apply zk6|apply zk7|apply zk8|apply zk9) <;> intro hc)
       |(refine callP0 rfl ?_)
       |(refine callD0 rfl ?_)
       |(refine cP (kZ) ?_)
       |(refine cD (kZ) ?_)
       |(refine cF (kZ) ?_)
       |(refine cP (cZ) ?_)
       |(refine cD (cZ) ?_)
       |(refine cF (cZ) ?_)
       | fail)
      refine ⟨2,by omega,by omega,?_⟩
      refine wk_i ?_ ?_ <;> simp only [zw,Nat.reduceEqDiff,Nat.reduceBEq,Nat.reduceLT,Nat.reduceLeDiff,reduceIte,reduceCtorEq]
      all_goals exact rfl
     | false =>
      change FRet _ _ _ [.c (.v (.bool true))] at cZ
      refine srun_sound 300 _ _ _ _ ?_
      repeat' (first
       | (simp -implicitDefEqProofs only [*,zr,Nat.reduceAdd,Nat.reduceSub,Nat.reduceMul,Nat.reduceLT,Nat.reduceLeDiff,Nat.reduceEqDiff,Nat.reduceBEq,reduceIte,reduceCtorEq,Int.reduceLE,Int.reduceLT,Int.reduceToNat,Int.reduceEq,Int.reduceNe])
       | ((first|apply zk0|apply zk1|apply zk2|apply zk3|apply zk4|apply zk5|apply zk6|apply zk7|apply zk8|apply zk9) <;> intro hc)
       |(refine callP0 rfl ?_)
       |(refine callD0 rfl ?_)
       | fail)
      refine ax_weakA [] (nw := []) (n := 104) (el := [(0,.f nodes),(3,.f (.str lab)),(5,.ptr 5 1 0),(6,.ptr 6 1 0),(13,.f (.bool true)),(14,.f (.bool false)),(15,.f (.int .i64 9)),(67,.f nodes),(72,.agg [.f (.int .i64 9),.f (.str ⟨#[]⟩),.f (.int .i64 0),.f (.fr 4 [encQ (.mk ak at_ an aps),encQ (.mk bk bt bn bps)])])]) (hl := [(5,1,.cells [.f (.int .i64 ak),.f (.str at_),.f (.int .i64 an),.f (.fr 4 (encQs aps))]),(6,1,.cells [.f (.int .i64 bk),.f (.str bt),.f (.int .i64 bn),.f (.fr 4 (encQs bps))])]) rfl ?_ ?_
      ·refine wk_i ?_ ?_ <;> simp only [so_mf,mapOfH_some,so_ptf,so_cc,so_ff',cellsOf_some,List.drop_zero,List.take_succ_cons,List.take_zero,Nat.zero_add,Nat.le_refl,zw,Nat.reduceEqDiff,Nat.reduceBEq,Nat.reduceLT,Nat.reduceLeDiff,reduceIte,reduceCtorEq]
       exact so_row0 (enc := encQ) (sz := 4) (l := [.mk ak at_ an aps,.mk bk bt bn bps]) encQ_len rfl rfl rfl
      repeat' (first
       | (simp -implicitDefEqProofs only [*,encQ,zr,Nat.reduceAdd,Nat.reduceSub,Nat.reduceMul,Nat.reduceLT,Nat.reduceLeDiff,Nat.reduceEqDiff,Nat.reduceBEq,reduceIte,reduceCtorEq,Int.reduceLE,Int.reduceLT,Int.reduceToNat,Int.reduceEq,Int.reduceNe])
       | ((first|apply zk0|apply zk1|apply zk2|apply zk3|apply zk4|apply zk5|apply zk6|apply zk7|apply zk8|apply zk9) <;> intro hc)
       |(refine callP0 rfl ?_)
       |(refine callD0 rfl ?_)
       |(refine cP (kZ) ?_)
       |(refine cD (kZ) ?_)
       |(refine cF (kZ) ?_)
       |(refine cP (cZ) ?_)
       |(refine cD (cZ) ?_)
       |(refine cF (cZ) ?_)
       | fail)
      refine ⟨2,by omega,by omega,?_⟩
      refine wk_i ?_ ?_ <;> simp only [zw,Nat.reduceEqDiff,Nat.reduceBEq,Nat.reduceLT,Nat.reduceLeDiff,reduceIte,reduceCtorEq]
      all_goals exact rfl
    | false =>
     cases q with
     | true =>
      change FRet _ _ _ [.c (.v (.bool false))] at cZ
      refine srun_sound 300 _ _ _ _ ?_
      repeat' (first
       | (simp -implicitDefEqProofs only [*,zr,Nat.reduceAdd,Nat.reduceSub,Nat.reduceMul,Nat.reduceLT,Nat.reduceLeDiff,Nat.reduceEqDiff,Nat.reduceBEq,reduceIte,reduceCtorEq,Int.reduceLE,Int.reduceLT,Int.reduceToNat,Int.reduceEq,Int.reduceNe])
       | ((first|apply zk0|apply zk1|apply zk2|apply zk3|apply zk4|apply zk5|apply zk6|apply zk7|apply zk8|apply zk9) <;> intro hc)
       |(refine callP0 rfl ?_)
       |(refine callD0 rfl ?_)
       | fail)
      refine ax_weakA [] (nw := []) (n := 104) (el := [(0,.f nodes),(3,.f (.str lab)),(5,.ptr 5 1 0),(6,.ptr 6 1 0),(13,.f (.bool false)),(14,.f (.bool true)),(15,.f (.int .i64 9)),(67,.f nodes),(72,.agg [.f (.int .i64 9),.f (.str ⟨#[]⟩),.f (.int .i64 0),.f (.fr 4 [encQ (.mk ak at_ an aps),encQ (.mk bk bt bn bps)])])]) (hl := [(5,1,.cells [.f (.int .i64 ak),.f (.str at_),.f (.int .i64 an),.f (.fr 4 (encQs aps))]),(6,1,.cells [.f (.int .i64 bk),.f (.str bt),.f (.int .i64 bn),.f (.fr 4 (encQs bps))])]) rfl ?_ ?_
      ·refine wk_i ?_ ?_ <;> simp only [so_mf,mapOfH_some,so_ptf,so_cc,so_ff',cellsOf_some,List.drop_zero,List.take_succ_cons,List.take_zero,Nat.zero_add,Nat.le_refl,zw,Nat.reduceEqDiff,Nat.reduceBEq,Nat.reduceLT,Nat.reduceLeDiff,reduceIte,reduceCtorEq]
       exact so_row0 (enc := encQ) (sz := 4) (l := [.mk ak at_ an aps,.mk bk bt bn bps]) encQ_len rfl rfl rfl
      repeat' (first
       | (simp -implicitDefEqProofs only [*,encQ,zr,Nat.reduceAdd,Nat.reduceSub,Nat.reduceMul,Nat.reduceLT,Nat.reduceLeDiff,Nat.reduceEqDiff,Nat.reduceBEq,reduceIte,reduceCtorEq,Int.reduceLE,Int.reduceLT,Int.reduceToNat,Int.reduceEq,Int.reduceNe])
       | ((first|apply zk0|apply zk1|apply zk2|apply zk3|apply zk4|apply zk5|apply zk6|apply zk7|apply zk8|apply zk9) <;> intro hc)
       |(refine callP0 rfl ?_)
       |(refine callD0 rfl ?_)
       |(refine cP (kZ) ?_)
       |(refine cD (kZ) ?_)
       |(refine cF (kZ) ?_)
       |(refine cP (cZ) ?_)
       |(refine cD (cZ) ?_)
       |(refine cF (cZ) ?_)
       | fail)
      refine ⟨2,by omega,by omega,?_⟩
      refine wk_i ?_ ?_ <;> simp only [zw,Nat.reduceEqDiff,Nat.reduceBEq,Nat.reduceLT,Nat.reduceLeDiff,reduceIte,reduceCtorEq]
      all_goals exact rfl
     | false =>
      change FRet _ _ _ [.c (.v (.bool false))] at cZ
      refine srun_sound 300 _ _ _ _ ?_
      repeat' (first
       | (simp -implicitDefEqProofs only [*,zr,Nat.reduceAdd,Nat.reduceSub,Nat.reduceMul,Nat.reduceLT,Nat.reduceLeDiff,Nat.reduceEqDiff,Nat.reduceBEq,reduceIte,reduceCtorEq,Int.reduceLE,Int.reduceLT,Int.reduceToNat,Int.reduceEq,Int.reduceNe])
       | ((first|apply zk0|apply zk1|apply zk2|apply zk3|apply zk4|apply zk5|apply zk6|apply zk7|apply zk8|apply zk9) <;> intro hc)
       |(refine callP0 rfl ?_)
       |(refine callD0 rfl ?_)
       | fail)
      refine ax_weakA [] (nw := []) (n := 104) (el := [(0,.f nodes),(3,.f (.str lab)),(5,.ptr 5 1 0),(6,.ptr 6 1 0),(13,.f (.bool false)),(14,.f (.bool false)),(15,.f (.int .i64 9)),(67,.f nodes),(72,.agg [.f (.int .i64 9),.f (.str ⟨#[]⟩),.f (.int .i64 0),.f (.fr 4 [encQ (.mk ak at_ an aps),encQ (.mk bk bt bn bps)])])]) (hl := [(5,1,.cells [.f (.int .i64 ak),.f (.str at_),.f (.int .i64 an),.f (.fr 4 (encQs aps))]),(6,1,.cells [.f (.int .i64 bk),.f (.str bt),.f (.int .i64 bn),.f (.fr 4 (encQs bps))])]) rfl ?_ ?_
      ·refine wk_i ?_ ?_ <;> simp only [so_mf,mapOfH_some,so_ptf,so_cc,so_ff',cellsOf_some,List.drop_zero,List.take_succ_cons,List.take_zero,Nat.zero_add,Nat.le_refl,zw,Nat.reduceEqDiff,Nat.reduceBEq,Nat.reduceLT,Nat.reduceLeDiff,reduceIte,reduceCtorEq]
       exact so_row0 (enc := encQ) (sz := 4) (l := [.mk ak at_ an aps,.mk bk bt bn bps]) encQ_len rfl rfl rfl
      repeat' (first
       | (simp -implicitDefEqProofs only [*,encQ,zr,Nat.reduceAdd,Nat.reduceSub,Nat.reduceMul,Nat.reduceLT,Nat.reduceLeDiff,Nat.reduceEqDiff,Nat.reduceBEq,reduceIte,reduceCtorEq,Int.reduceLE,Int.reduceLT,Int.reduceToNat,Int.reduceEq,Int.reduceNe])
       | ((first|apply zk0|apply zk1|apply zk2|apply zk3|apply zk4|apply zk5|apply zk6|apply zk7|apply zk8|apply zk9) <;> intro hc)
       |(refine callP0 rfl ?_)
       |(refine callD0 rfl ?_)
       |(refine cP (kZ) ?_)
       |(refine cD (kZ) ?_)
       |(refine cF (kZ) ?_)
       |(refine cP (cZ) ?_)
       |(refine cD (cZ) ?_)
       |(refine cF (cZ) ?_)
       | fail)
      refine ⟨2,by omega,by omega,?_⟩
      refine wk_i ?_ ?_ <;> simp only [zw,Nat.reduceEqDiff,Nat.reduceBEq,Nat.reduceLT,Nat.reduceLeDiff,reduceIte,reduceCtorEq]
      all_goals exact rfl
  ·change FRet _ _ [_,.agg [.f (.int .i64 10),_,_,_]] _ at kZ
   have w1 : IntKind.i64.wrap (kq 2 - 8) = 2 := rfl
   have w2 : IntKind.i64.wrap (kq 2 + 1) = kq 3 := rfl
   have w3 : decide (kq 2 ≤ 10) = true := rfl
   have q3 : ((2 : Int) < ((3 : Nat) : Int)) = True := by simp
   rcases hy with hy | ⟨hy,hyl,hyw⟩
   ·subst hy
    rw [if_neg (show ¬ (2 : Int) = 0 by decide)] at kZ
    clear kC
    refine srun_sound 300 _ _ _ _ ?_
    repeat' (first
     | (simp -implicitDefEqProofs only [*,zr,Nat.reduceAdd,Nat.reduceSub,Nat.reduceMul,Nat.reduceLT,Nat.reduceLeDiff,Nat.reduceEqDiff,Nat.reduceBEq,reduceIte,reduceCtorEq,Int.reduceLE,Int.reduceLT,Int.reduceToNat,Int.reduceEq,Int.reduceNe])
     | ((first|apply zk0|apply zk1|apply zk2|apply zk3|apply zk4|apply zk5|apply zk6|apply zk7|apply zk8|apply zk9) <;> intro hc)
     |(refine callP0 rfl ?_)
     |(refine callD0 rfl ?_)
     | fail)
    refine ax_weakA [] (nw := []) (n := 104) (el := [(0,.f nodes),(3,.f (.str lab)),(5,.ptr 5 1 0),(6,.ptr 6 1 0),(13,.f (.bool p)),(14,.f (.bool q)),(15,.f (.int .i64 10)),(67,.f nodes),(72,.agg [.f (.int .i64 10),.f (.str ⟨#[]⟩),.f (.int .i64 0),.f (.fr 4 [encQ (.mk ak at_ an aps),encQ (.mk bk bt bn bps)])])]) (hl := [(5,1,.cells [.f (.int .i64 ak),.f (.str at_),.f (.int .i64 an),.f (.fr 4 (encQs aps))]),(6,1,.cells [.f (.int .i64 bk),.f (.str bt),.f (.int .i64 bn),.f (.fr 4 (encQs bps))])]) rfl ?_ ?_
    ·refine wk_i ?_ ?_ <;> simp only [so_mf,mapOfH_some,so_ptf,so_cc,so_ff',cellsOf_some,List.drop_zero,List.take_succ_cons,List.take_zero,Nat.zero_add,Nat.le_refl,zw,Nat.reduceEqDiff,Nat.reduceBEq,Nat.reduceLT,Nat.reduceLeDiff,reduceIte,reduceCtorEq]
     exact so_row0 (enc := encQ) (sz := 4) (l := [.mk ak at_ an aps,.mk bk bt bn bps]) encQ_len rfl rfl rfl
    repeat' (first
     | (simp -implicitDefEqProofs only [*,encQ,zr,Nat.reduceAdd,Nat.reduceSub,Nat.reduceMul,Nat.reduceLT,Nat.reduceLeDiff,Nat.reduceEqDiff,Nat.reduceBEq,reduceIte,reduceCtorEq,Int.reduceLE,Int.reduceLT,Int.reduceToNat,Int.reduceEq,Int.reduceNe])
     | ((first|apply zk0|apply zk1|apply zk2|apply zk3|apply zk4|apply zk5|apply zk6|apply zk7|apply zk8|apply zk9) <;> intro hc)
     |(refine callP0 rfl ?_)
     |(refine callD0 rfl ?_)
     |(refine cP (kZ) ?_)
     |(refine cD (kZ) ?_)
     |(refine cF (kZ) ?_)
     | fail)
    refine ⟨3,by omega,by omega,?_⟩
    refine wk_i ?_ ?_ <;> simp only [zw,Nat.reduceEqDiff,Nat.reduceBEq,Nat.reduceLT,Nat.reduceLeDiff,reduceIte,reduceCtorEq]
    all_goals exact rfl
   ·subst hy
    rw [if_pos rfl] at kZ
    have cZ := kC hyl
    rw [hyw] at cZ
    clear kC hyw
    generalize frStrs lz = fz at *
    cases p with
    | true =>
     cases q with
     | true =>
      change FRet _ _ _ [.c (.v (.bool true))] at cZ
      refine srun_sound 300 _ _ _ _ ?_
      repeat' (first
       | (simp -implicitDefEqProofs only [*,zr,Nat.reduceAdd,Nat.reduceSub,Nat.reduceMul,Nat.reduceLT,Nat.reduceLeDiff,Nat.reduceEqDiff,Nat.reduceBEq,reduceIte,reduceCtorEq,Int.reduceLE,Int.reduceLT,Int.reduceToNat,Int.reduceEq,Int.reduceNe])
       | ((first|apply zk0|apply zk1|apply zk2|apply zk3|apply zk4|apply zk5|apply zk6|apply zk7|apply zk8|apply zk9) <;> intro hc)
       |(refine callP0 rfl ?_)
       |(refine callD0 rfl ?_)
       | fail)
      refine ax_weakA [] (nw := []) (n := 104) (el := [(0,.f nodes),(3,.f (.str lab)),(5,.ptr 5 1 0),(6,.ptr 6 1 0),(13,.f (.bool true)),(14,.f (.bool true)),(15,.f (.int .i64 10)),(67,.f nodes),(72,.agg [.f (.int .i64 10),.f (.str ⟨#[]⟩),.f (.int .i64 0),.f (.fr 4 [encQ (.mk ak at_ an aps),encQ (.mk bk bt bn bps)])])]) (hl := [(5,1,.cells [.f (.int .i64 ak),.f (.str at_),.f (.int .i64 an),.f (.fr 4 (encQs aps))]),(6,1,.cells [.f (.int .i64 bk),.f (.str bt),.f (.int .i64 bn),.f (.fr 4 (encQs bps))])]) rfl ?_ ?_
      ·refine wk_i ?_ ?_ <;> simp only [so_mf,mapOfH_some,so_ptf,so_cc,so_ff',cellsOf_some,List.drop_zero,List.take_succ_cons,List.take_zero,Nat.zero_add,Nat.le_refl,zw,Nat.reduceEqDiff,Nat.reduceBEq,Nat.reduceLT,Nat.reduceLeDiff,reduceIte,reduceCtorEq]
       exact so_row0 (enc := encQ) (sz := 4) (l := [.mk ak at_ an aps,.mk bk bt bn bps]) encQ_len rfl rfl rfl
      repeat' (first
       | (simp -implicitDefEqProofs only [*,encQ,zr,Nat.reduceAdd,Nat.reduceSub,Nat.reduceMul,Nat.reduceLT,Nat.reduceLeDiff,Nat.reduceEqDiff,Nat.reduceBEq,reduceIte,reduceCtorEq,Int.reduceLE,Int.reduceLT,Int.reduceToNat,Int.reduceEq,Int.reduceNe])
       | ((first|apply zk0|apply zk1|apply zk2|apply zk3|apply zk4|apply zk5|apply zk6|apply zk7|apply zk8|apply zk9) <;> intro hc)
       |(refine callP0 rfl ?_)
       |(refine callD0 rfl ?_)
       |(refine cP (kZ) ?_)
       |(refine cD (kZ) ?_)
       |(refine cF (kZ) ?_)
       |(refine cP (cZ) ?_)
       |(refine cD (cZ) ?_)
       |(refine cF (cZ) ?_)
       | fail)
      refine ⟨3,by omega,by omega,?_⟩
      refine wk_i ?_ ?_ <;> simp only [zw,Nat.reduceEqDiff,Nat.reduceBEq,Nat.reduceLT,Nat.reduceLeDiff,reduceIte,reduceCtorEq]
      all_goals exact rfl
     | false =>
      change FRet _ _ _ [.c (.v (.bool false))] at cZ
      refine srun_sound 300 _ _ _ _ ?_
      repeat' (first
       | (simp -implicitDefEqProofs only [*,zr,Nat.reduceAdd,Nat.reduceSub,Nat.reduceMul,Nat.reduceLT,Nat.reduceLeDiff,Nat.reduceEqDiff,Nat.reduceBEq,reduceIte,reduceCtorEq,Int.reduceLE,Int.reduceLT,Int.reduceToNat,Int.reduceEq,Int.reduceNe])
       | ((first|apply zk0|apply zk1|apply zk2|apply zk3|apply zk4|apply zk5|apply zk6|apply zk7|apply zk8|apply zk9) <;> intro hc)
       |(refine callP0 rfl ?_)
       |(refine callD0 rfl ?_)
       | fail)
      refine ax_weakA [] (nw := []) (n := 104) (el := [(0,.f nodes),(3,.f (.str lab)),(5,.ptr 5 1 0),(6,.ptr 6 1 0),(13,.f (.bool true)),(14,.f (.bool false)),(15,.f (.int .i64 10)),(67,.f nodes),(72,.agg [.f (.int .i64 10),.f (.str ⟨#[]⟩),.f (.int .i64 0),.f (.fr 4 [encQ (.mk ak at_ an aps),encQ (.mk bk bt bn bps)])])]) (hl := [(5,1,.cells [.f (.int .i64 ak),.f (.str at_),.f (.int .i64 an),.f (.fr 4 (encQs aps))]),(6,1,.cells [.f (.int .i64 bk),.f (.str bt),.f (.int .i64 bn),.f (.fr 4 (encQs bps))])]) rfl ?_ ?_
      ·refine wk_i ?_ ?_ <;> simp only [so_mf,mapOfH_some,so_ptf,so_cc,so_ff',cellsOf_some,List.drop_zero,List.take_succ_cons,List.take_zero,Nat.zero_add,Nat.le_refl,zw,Nat.reduceEqDiff,Nat.reduceBEq,Nat.reduceLT,Nat.reduceLeDiff,reduceIte,reduceCtorEq]
       exact so_row0 (enc := encQ) (sz := 4) (l := [.mk ak at_ an aps,.mk bk bt bn bps]) encQ_len rfl rfl rfl
      repeat' (first
       | (simp -implicitDefEqProofs only [*,encQ,zr,Nat.reduceAdd,Nat.reduceSub,Nat.reduceMul,Nat.reduceLT,Nat.reduceLeDiff,Nat.reduceEqDiff,Nat.reduceBEq,reduceIte,reduceCtorEq,Int.reduceLE,Int.reduceLT,Int.reduceToNat,Int.reduceEq,Int.reduceNe])
       | ((first|apply zk0|apply zk1|apply zk2|apply zk3|apply zk4|apply zk5|apply zk6|apply zk7|apply zk8|apply zk9) <;> intro hc)
       |(refine callP0 rfl ?_)
       |(refine callD0 rfl ?_)
       |(refine cP (kZ) ?_)
       |(refine cD (kZ) ?_)
       |(refine cF (kZ) ?_)
       |(refine cP (cZ) ?_)
       |(refine cD (cZ) ?_)
       |(refine cF (cZ) ?_)
       | fail)
      refine ⟨3,by omega,by omega,?_⟩
      refine wk_i ?_ ?_ <;> simp only [zw,Nat.reduceEqDiff,Nat.reduceBEq,Nat.reduceLT,Nat.reduceLeDiff,reduceIte,reduceCtorEq]
      all_goals exact rfl
    | false =>
     cases q with
     | true =>
      change FRet _ _ _ [.c (.v (.bool false))] at cZ
      refine srun_sound 300 _ _ _ _ ?_
      repeat' (first
       | (simp -implicitDefEqProofs only [*,zr,Nat.reduceAdd,Nat.reduceSub,Nat.reduceMul,Nat.reduceLT,Nat.reduceLeDiff,Nat.reduceEqDiff,Nat.reduceBEq,reduceIte,reduceCtorEq,Int.reduceLE,Int.reduceLT,Int.reduceToNat,Int.reduceEq,Int.reduceNe])
       | ((first|apply zk0|apply zk1|apply zk2|apply zk3|apply zk4|apply zk5|apply zk6|apply zk7|apply zk8|apply zk9) <;> intro hc)
       |(refine callP0 rfl ?_)
       |(refine callD0 rfl ?_)
       | fail)
      refine ax_weakA [] (nw := []) (n := 104) (el := [(0,.f nodes),(3,.f (.str lab)),(5,.ptr 5 1 0),(6,.ptr 6 1 0),(13,.f (.bool false)),(14,.f (.bool true)),(15,.f (.int .i64 10)),(67,.f nodes),(72,.agg [.f (.int .i64 10),.f (.str ⟨#[]⟩),.f (.int .i64 0),.f (.fr 4 [encQ (.mk ak at_ an aps),encQ (.mk bk bt bn bps)])])]) (hl := [(5,1,.cells [.f (.int .i64 ak),.f (.str at_),.f (.int .i64 an),.f (.fr 4 (encQs aps))]),(6,1,.cells [.f (.int .i64 bk),.f (.str bt),.f (.int .i64 bn),.f (.fr 4 (encQs bps))])]) rfl ?_ ?_
      ·refine wk_i ?_ ?_ <;> simp only [so_mf,mapOfH_some,so_ptf,so_cc,so_ff',cellsOf_some,List.drop_zero,List.take_succ_cons,List.take_zero,Nat.zero_add,Nat.le_refl,zw,Nat.reduceEqDiff,Nat.reduceBEq,Nat.reduceLT,Nat.reduceLeDiff,reduceIte,reduceCtorEq]
       exact so_row0 (enc := encQ) (sz := 4) (l := [.mk ak at_ an aps,.mk bk bt bn bps]) encQ_len rfl rfl rfl
      repeat' (first
       | (simp -implicitDefEqProofs only [*,encQ,zr,Nat.reduceAdd,Nat.reduceSub,Nat.reduceMul,Nat.reduceLT,Nat.reduceLeDiff,Nat.reduceEqDiff,Nat.reduceBEq,reduceIte,reduceCtorEq,Int.reduceLE,Int.reduceLT,Int.reduceToNat,Int.reduceEq,Int.reduceNe])
       | ((first|apply zk0|apply zk1|apply zk2|apply zk3|apply zk4|apply zk5|apply zk6|apply zk7|apply zk8|apply zk9) <;> intro hc)
       |(refine callP0 rfl ?_)
       |(refine callD0 rfl ?_)
       |(refine cP (kZ) ?_)
       |(refine cD (kZ) ?_)
       |(refine cF (kZ) ?_)
       |(refine cP (cZ) ?_)
       |(refine cD (cZ) ?_)
       |(refine cF (cZ) ?_)
       | fail)
      refine ⟨3,by omega,by omega,?_⟩
      refine wk_i ?_ ?_ <;> simp only [zw,Nat.reduceEqDiff,Nat.reduceBEq,Nat.reduceLT,Nat.reduceLeDiff,reduceIte,reduceCtorEq]
      all_goals exact rfl
     | false =>
      change FRet _ _ _ [.c (.v (.bool false))] at cZ
      refine srun_sound 300 _ _ _ _ ?_
      repeat' (first
       | (simp -implicitDefEqProofs only [*,zr,Nat.reduceAdd,Nat.reduceSub,Nat.reduceMul,Nat.reduceLT,Nat.reduceLeDiff,Nat.reduceEqDiff,Nat.reduceBEq,reduceIte,reduceCtorEq,Int.reduceLE,Int.reduceLT,Int.reduceToNat,Int.reduceEq,Int.reduceNe])
       | ((first|apply zk0|apply zk1|apply zk2|apply zk3|apply zk4|apply zk5|apply zk6|apply zk7|apply zk8|apply zk9) <;> intro hc)
       |(refine callP0 rfl ?_)
       |(refine callD0 rfl ?_)
       | fail)
      refine ax_weakA [] (nw := []) (n := 104) (el := [(0,.f nodes),(3,.f (.str lab)),(5,.ptr 5 1 0),(6,.ptr 6 1 0),(13,.f (.bool false)),(14,.f (.bool false)),(15,.f (.int .i64 10)),(67,.f nodes),(72,.agg [.f (.int .i64 10),.f (.str ⟨#[]⟩),.f (.int .i64 0),.f (.fr 4 [encQ (.mk ak at_ an aps),encQ (.mk bk bt bn bps)])])]) (hl := [(5,1,.cells [.f (.int .i64 ak),.f (.str at_),.f (.int .i64 an),.f (.fr 4 (encQs aps))]),(6,1,.cells [.f (.int .i64 bk),.f (.str bt),.f (.int .i64 bn),.f (.fr 4 (encQs bps))])]) rfl ?_ ?_
      ·refine wk_i ?_ ?_ <;> simp only [so_mf,mapOfH_some,so_ptf,so_cc,so_ff',cellsOf_some,List.drop_zero,List.take_succ_cons,List.take_zero,Nat.zero_add,Nat.le_refl,zw,Nat.reduceEqDiff,Nat.reduceBEq,Nat.reduceLT,Nat.reduceLeDiff,reduceIte,reduceCtorEq]
       exact so_row0 (enc := encQ) (sz := 4) (l := [.mk ak at_ an aps,.mk bk bt bn bps]) encQ_len rfl rfl rfl
      repeat' (first
       | (simp -implicitDefEqProofs only [*,encQ,zr,Nat.reduceAdd,Nat.reduceSub,Nat.reduceMul,Nat.reduceLT,Nat.reduceLeDiff,Nat.reduceEqDiff,Nat.reduceBEq,reduceIte,reduceCtorEq,Int.reduceLE,Int.reduceLT,Int.reduceToNat,Int.reduceEq,Int.reduceNe])
       | ((first|apply zk0|apply zk1|apply zk2|apply zk3|apply zk4|apply zk5|apply zk6|apply zk7|apply zk8|apply zk9) <;> intro hc)
       |(refine callP0 rfl ?_)
       |(refine callD0 rfl ?_)
       |(refine cP (kZ) ?_)
       |(refine cD (kZ) ?_)
       |(refine cF (kZ) ?_)
       |(refine cP (cZ) ?_)
       |(refine cD (cZ) ?_)
       |(refine cF (cZ) ?_)
       | fail)
      refine ⟨3,by omega,by omega,?_⟩
      refine wk_i ?_ ?_ <;> simp only [zw,Nat.reduceEqDiff,Nat.reduceBEq,Nat.reduceLT,Nat.reduceLeDiff,reduceIte,reduceCtorEq]
      all_goals exact rfl
 ·obtain rfl : s = 3 := by omega
  have w3 : decide (kq 3 ≤ 10) = false := rfl
  refine srun_sound 300 _ _ _ _ ?_
  repeat' (first
   | (simp -implicitDefEqProofs only [*,zr,Nat.reduceAdd,Nat.reduceSub,Nat.reduceMul,Nat.reduceLT,Nat.reduceLeDiff,Nat.reduceEqDiff,Nat.reduceBEq,reduceIte,reduceCtorEq,Int.reduceLE,Int.reduceLT,Int.reduceToNat,Int.reduceEq,Int.reduceNe])
   | ((first|apply zk0|apply zk1|apply zk2|apply zk3|apply zk4|apply zk5|apply zk6|apply zk7|apply zk8|apply zk9) <;> intro hc)
   |(refine callP0 rfl ?_)
   |(refine callD0 rfl ?_)
   |(refine cP (awake_f) ?_)
   |(refine cD (awake_f) ?_)
   |(refine cF (awake_f) ?_)
   | fail)
  exact ret_v
end Go.Proofs.YticefeanlicapaaDoor
