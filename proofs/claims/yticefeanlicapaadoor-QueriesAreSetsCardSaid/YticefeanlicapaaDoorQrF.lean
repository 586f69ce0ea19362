/-
  Answer, and that every right query has one. No statement of the seat is proved here; no conditions.
-/
import Derived.Test.YticefeanlicapaaDoorQrE
namespace Go.Proofs.YticefeanlicapaaDoor
open Go.RowKit Go.Shelf
set_option linter.unusedVariables false
set_option linter.unusedSimpArgs false
set_option maxRecDepth 100000

theorem filt_ok {n : Nat} (hn : n ≤ 1000) (p : Nat → Bool) : AOk n ((List.range n).filter p) :=
 ⟨by have := filt_len p n;omega,List.pairwise_lt_range.filter _,fun k hk => List.mem_range.1 (List.mem_filter.1 hk).1⟩
theorem ansK_ok {g : Graph} {D U : List (List Nat)} (hg : GOk g) {k : Int} {t : ByteArray} {n : Int} {Ls : List (List Nat)} (h0 : (ansK g D U k t n Ls).1 = 0) : AOk g.length (ansK g D U k t n Ls).2 := by
 have hn := hg.len
 have hF := fun p => filt_ok hn p
 unfold ansK at h0 ⊢
 split
 ·exact hF _
 split
 ·rename_i h1 h2
  rw [if_neg h1,if_pos h2] at h0
  split at h0
  ·rename_i h3
   rw [if_pos h3]
   exact ⟨by simp,List.pairwise_singleton _ _,fun k hk => by rw [List.mem_singleton.1 hk];exact nIdx_lt hg.rising h3⟩
  ·cases h0
 split
 ·exact hF _
 split
 ·exact hF _
 split
 ·exact hF _
 split
 ·exact hF _
 split
 ·exact hF _
 split
 ·exact hF _
 split
 ·exact hF _
 ·exact hF _
theorem pick_list {α β : Type} {P : α → β → Prop} : ∀ {l : List α},(∀ a ∈ l,∃ b,P a b) → ∃ m : List β,m.length = l.length ∧ ∀ (s : Nat) (a : α) (b : β),l[s]? = some a → m[s]? = some b → P a b
 | [],_ => ⟨[],rfl,fun s a b h => by simp at h⟩
 | a :: l,h => by
  obtain ⟨b,hb⟩ := h a List.mem_cons_self
  obtain ⟨m,h1,h2⟩ := pick_list (l := l) fun x hx => h x (List.mem_cons_of_mem _ hx)
  refine ⟨b :: m,by simp [h1],fun s x y hx hy => ?_⟩
  rcases s with _ | s
  ·simp at hx hy;subst hx hy;exact hb
  ·exact h2 s x y (by simpa using hx) (by simpa using hy)
theorem answer_ex (g : Graph) (D U : List (List Nat)) (hg : GOk g) (hN : NetOk g.length D U) (hnb : ∀ x ∈ g,(x.1.size : Int) ≤ 140737488355328) : ∀ q : QT,QB q → ckQ q = 0 → ∃ x : Int × List Nat,FRet Tryd.prog 9 [.f (fNet g D U),aQ q] (ansR x) ∧ (x.1 = 0 → AOk g.length x.2) := by
 refine QT.ind fun k t n ps ih hb hc => ?_
 have hz := (ckQ_parts hc).2.2.2
 rw [QB] at hb
 obtain ⟨hq,hbs⟩ := hb
 obtain ⟨Fs,h1,h2⟩ := pick_list fun p hp => ih p hp (QBs_mem hbs p hp) (ckQs_zero.1 hz p hp)
 have hA : ∀ x ∈ Fs,x.1 = 0 → AOk g.length x.2 := fun x hx => by
  obtain ⟨s,hs⟩ := List.mem_iff_getElem?.1 hx
  obtain ⟨p,hp⟩ := get_some (l := ps) (i := s) (by have := (List.getElem?_eq_some_iff.1 hs).1;omega)
  exact (h2 s p x hp hs).2
 refine ⟨_,answer_f g D U hg hN hnb k t n ps hq hc Fs h1 (fun s p x hp hx => (h2 s p x hp hx).1) hA,fun h0 => ?_⟩
 unfold ansF at h0 ⊢
 by_cases hf : fstF Fs ≠ 0
 ·rw [if_pos hf] at h0;exact absurd h0 hf
 ·rw [if_neg hf] at h0 ⊢
  exact ansK_ok hg h0
def ckTop (q : QT) : Int := if 2000 < (sizeQ q).1 ∨ 20 < (sizeQ q).2 then 2 else ckQ q
theorem CheckQuery_f (q : QT) (hb : QB q) : FRet Tryd.prog 8 [aQ q] [.c (.v (.int .i64 (ckTop q)))] := by
 have k1 := size_f q hb
 have k2 := checkQuery_f q hb
 unfold ckTop
 generalize sizeQ q = s at *
 generalize ckQ q = c at *
 obtain ⟨k,t,n,ps⟩ := q
 obtain ⟨s1,s2⟩ := s
 dsimp only at k1 ⊢
 refine FCall.of_ax low_graph_CheckQuery ?_
 dsimp only [l_graph_CheckQuery,aQ,encQ,List.map] at k1 k2 ⊢
 by_cases h1 : 2000 < s1
 ·rw [if_pos (.inl h1)]
  have d1 : decide (2000 < s1) = true := dcT h1
  have d1' : decide (s1 > 2000) = true := dcT h1
  replace h1 := hide h1
  refine srun_sound 300 _ _ _ _ ?_
  repeat' (first
   | (simp -implicitDefEqProofs only [*,zr,Nat.reduceAdd,Nat.reduceSub,Nat.reduceMul,Nat.reduceLT,Nat.reduceLeDiff,Nat.reduceEqDiff,Nat.reduceBEq,reduceIte,reduceCtorEq,Int.reduceLE,Int.reduceLT,Int.reduceToNat,Int.reduceEq,Int.reduceNe])
   | ((first|apply zk0|apply zk1|apply zk2|apply zk3|apply zk4|apply zk5|apply zk6|apply zk7|apply zk8|apply zk9) <;> intro hc)
   |(refine callP0 rfl ?_)
   |(refine callD0 rfl ?_)
   |(refine cP (k1) ?_)
   |(refine cD (k1) ?_)
   |(refine cF (k1) ?_)
   | fail)
  exact ret_v
 have d1 : decide (2000 < s1) = false := dcF h1
 have d1' : decide (s1 > 2000) = false := dcF h1
 by_cases h2 : 20 < s2
 ·rw [if_pos (.inr h2)]
  have d2 : decide (20 < s2) = true := dcT h2
  have d2' : decide (s2 > 20) = true := dcT h2
  replace h1 := hide h1
  replace h2 := hide h2
  refine srun_sound 300 _ _ _ _ ?_
  repeat' (first
   | (simp -implicitDefEqProofs only [*,zr,Nat.reduceAdd,Nat.reduceSub,Nat.reduceMul,Nat.reduceLT,Nat.reduceLeDiff,Nat.reduceEqDiff,Nat.reduceBEq,reduceIte,reduceCtorEq,Int.reduceLE,Int.reduceLT,Int.reduceToNat,Int.reduceEq,Int.reduceNe])
   | ((first|apply zk0|apply zk1|apply zk2|apply zk3|apply zk4|apply zk5|apply zk6|apply zk7|apply zk8|apply zk9) <;> intro hc)
   |(refine callP0 rfl ?_)
   |(refine callD0 rfl ?_)
   |(refine cP (k1) ?_)
   |(refine cD (k1) ?_)
   |(refine cF (k1) ?_)
   | fail)
  exact ret_v
 rw [if_neg (fun h => h.elim h1 h2)]
 have d2 : decide (20 < s2) = false := dcF h2
 have d2' : decide (s2 > 20) = false := dcF h2
 replace h1 := hide h1
 replace h2 := hide h2
 refine srun_sound 300 _ _ _ _ ?_
 repeat' (first
  | (simp -implicitDefEqProofs only [*,zr,Nat.reduceAdd,Nat.reduceSub,Nat.reduceMul,Nat.reduceLT,Nat.reduceLeDiff,Nat.reduceEqDiff,Nat.reduceBEq,reduceIte,reduceCtorEq,Int.reduceLE,Int.reduceLT,Int.reduceToNat,Int.reduceEq,Int.reduceNe])
  | ((first|apply zk0|apply zk1|apply zk2|apply zk3|apply zk4|apply zk5|apply zk6|apply zk7|apply zk8|apply zk9) <;> intro hc)
  |(refine callP0 rfl ?_)
  |(refine callD0 rfl ?_)
  |(refine cP (k1) ?_)
  |(refine cD (k1) ?_)
  |(refine cF (k1) ?_)
  |(refine cP (k2) ?_)
  |(refine cD (k2) ?_)
  |(refine cF (k2) ?_)
  | fail)
 exact ret_v
def AnsV (g : Graph) (q : QT) (x : Int × List Nat) : Int × List ByteArray :=
 if treeErr g ≠ 0 then (treeErr g,[]) else if ckTop q ≠ 0 then (ckTop q,[]) else if x.1 ≠ 0 then (x.1,[]) else (0,x.2.map (labN g))
def ansS (y : Int × List ByteArray) : List RS := [.c (.v (if y.1 = 0 then frStrs y.2 else .nil)),.c (.v (.int .i64 y.1))]
theorem rs_err {H : Heap} {f : Int} (h : f ≠ 0) : Rets (ansS (f,[])) (.tup [.f .nil,.f (.int .i64 f)]) H := by
 unfold ansS
 rw [if_neg h]
 exact ⟨[_,_],rfl,⟨rfl,rfl,rfl⟩,List.nodup_nil⟩
theorem rs_ok {H : Heap} {l : List ByteArray} : Rets (ansS (0,l)) (.tup [.f (frStrs l),.f (.int .i64 0)]) H := ⟨[_,_],rfl,⟨rfl,rfl,rfl⟩,List.nodup_nil⟩
set_option maxHeartbeats 1000000 in
theorem Answer_f (g : Graph) (hb : GBound g) (q : QT) (hq : QB q) (x : Int × List Nat) (hx : treeErr g = 0 → ckTop q = 0 → FRet Tryd.prog 9 [.f (netOf g),aQ q] (ansR x) ∧ (x.1 = 0 → AOk g.length x.2)) :
  FRet Tryd.prog 4 [.f (frNodes g),aQ q] (ansS (AnsV g q x)) := by
 have kt := tree_f g hb
 have kc := CheckQuery_f q hq
 have kl := fun L hL => labels_f g (allDeps g) (usTo (allDeps g) g.length g.length) L hL
 unfold AnsV
 generalize (if treeErr g = 0 then ordR (orderOf g) else .nil) = o at *
 refine FCall.of_ax low_graph_Answer ?_
 generalize hnodes : frNodes g = nodes at *
 generalize ckTop q = c at *
 obtain ⟨k,t,n,ps⟩ := q
 dsimp only [l_graph_Answer,aQ,encQ,List.map] at kc hx ⊢
 by_cases h0 : treeErr g = 0
 case neg =>
  rw [if_pos h0]
  rw [if_neg h0] at kt
  have d0 := dcF h0
  have h0' := h0
  clear hx kl
  generalize treeErr g = e at *
  replace h0 := hide h0
  refine srun_sound 300 _ _ _ _ ?_
  repeat' (first
   | (simp -implicitDefEqProofs only [*,zr,Nat.reduceAdd,Nat.reduceSub,Nat.reduceMul,Nat.reduceLT,Nat.reduceLeDiff,Nat.reduceEqDiff,Nat.reduceBEq,reduceIte,reduceCtorEq,Int.reduceLE,Int.reduceLT,Int.reduceToNat,Int.reduceEq,Int.reduceNe])
   | ((first|apply zk0|apply zk1|apply zk2|apply zk3|apply zk4|apply zk5|apply zk6|apply zk7|apply zk8|apply zk9) <;> intro hc)
   |(refine callP0 rfl ?_)
   |(refine callD0 rfl ?_)
   |(refine cP (kt) ?_)
   |(refine cD (kt) ?_)
   |(refine cF (kt) ?_)
   | fail)
  exact rs_err h0'
 rw [if_neg (fun h => h h0)]
 rw [h0,if_pos rfl] at kt
 replace hx := hx h0
 change ∀ L,_ → _ → FRet _ _ [.f (netOf g),_] _ at kl
 obtain ⟨f,L⟩ := x
 generalize netOf g = net at *
 replace h0 := hide h0
 by_cases h1 : c = 0
 case neg =>
  rw [if_pos h1]
  have d1 := dcF h1
  have h1' := h1
  clear hx kl
  replace h1 := hide h1
  refine srun_sound 300 _ _ _ _ ?_
  repeat' (first
   | (simp -implicitDefEqProofs only [*,zr,Nat.reduceAdd,Nat.reduceSub,Nat.reduceMul,Nat.reduceLT,Nat.reduceLeDiff,Nat.reduceEqDiff,Nat.reduceBEq,reduceIte,reduceCtorEq,Int.reduceLE,Int.reduceLT,Int.reduceToNat,Int.reduceEq,Int.reduceNe])
   | ((first|apply zk0|apply zk1|apply zk2|apply zk3|apply zk4|apply zk5|apply zk6|apply zk7|apply zk8|apply zk9) <;> intro hc)
   |(refine callP0 rfl ?_)
   |(refine callD0 rfl ?_)
   |(refine cP (kt) ?_)
   |(refine cD (kt) ?_)
   |(refine cF (kt) ?_)
   |(refine cP (kc) ?_)
   |(refine cD (kc) ?_)
   |(refine cF (kc) ?_)
   | fail)
  exact rs_err h1'
 rw [if_neg (fun h => h h1)]
 obtain ⟨ka,hA⟩ := hx h1
 subst h1
 dsimp only [ansR] at ka hA ⊢
 by_cases h2 : f = 0
 case neg =>
  rw [if_pos h2]
  rw [if_neg h2] at ka
  have d2 := dcF h2
  have h2' := h2
  clear kl hA
  replace h2 := hide h2
  refine srun_sound 300 _ _ _ _ ?_
  repeat' (first
   | (simp -implicitDefEqProofs only [*,zr,Nat.reduceAdd,Nat.reduceSub,Nat.reduceMul,Nat.reduceLT,Nat.reduceLeDiff,Nat.reduceEqDiff,Nat.reduceBEq,reduceIte,reduceCtorEq,Int.reduceLE,Int.reduceLT,Int.reduceToNat,Int.reduceEq,Int.reduceNe])
   | ((first|apply zk0|apply zk1|apply zk2|apply zk3|apply zk4|apply zk5|apply zk6|apply zk7|apply zk8|apply zk9) <;> intro hc)
   |(refine callP0 rfl ?_)
   |(refine callD0 rfl ?_)
   |(refine cP (kt) ?_)
   |(refine cD (kt) ?_)
   |(refine cF (kt) ?_)
   |(refine cP (kc) ?_)
   |(refine cD (kc) ?_)
   |(refine cF (kc) ?_)
   |(refine cP (ka) ?_)
   |(refine cD (ka) ?_)
   |(refine cF (ka) ?_)
   | fail)
  exact rs_err h2'
 rw [if_neg (fun h => h h2)]
 rw [if_pos h2] at ka
 have hAA := hA h2
 have kl2 := kl L hAA.len hAA.lt
 subst h2
 clear kl hA
 replace hAA := hide hAA
 generalize L.map (labN g) = ls at *
 refine srun_sound 300 _ _ _ _ ?_
 repeat' (first
  | (simp -implicitDefEqProofs only [*,zr,Nat.reduceAdd,Nat.reduceSub,Nat.reduceMul,Nat.reduceLT,Nat.reduceLeDiff,Nat.reduceEqDiff,Nat.reduceBEq,reduceIte,reduceCtorEq,Int.reduceLE,Int.reduceLT,Int.reduceToNat,Int.reduceEq,Int.reduceNe])
  | ((first|apply zk0|apply zk1|apply zk2|apply zk3|apply zk4|apply zk5|apply zk6|apply zk7|apply zk8|apply zk9) <;> intro hc)
  |(refine callP0 rfl ?_)
  |(refine callD0 rfl ?_)
  |(refine cP (kt) ?_)
  |(refine cD (kt) ?_)
  |(refine cF (kt) ?_)
  |(refine cP (kc) ?_)
  |(refine cD (kc) ?_)
  |(refine cF (kc) ?_)
  |(refine cP (ka) ?_)
  |(refine cD (ka) ?_)
  |(refine cF (ka) ?_)
  |(refine cP (kl2) ?_)
  |(refine cD (kl2) ?_)
  |(refine cF (kl2) ?_)
  | fail)
 exact rs_ok
end Go.Proofs.YticefeanlicapaaDoor
