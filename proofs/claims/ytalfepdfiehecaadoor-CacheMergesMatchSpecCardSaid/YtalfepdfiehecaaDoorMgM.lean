/-
  The law MergesMatchSpec. No statement of the seat is proved here; no conditions.
-/
import Derived.Test.YtalfepdfiehecaaDoorMgR
import Derived.Test.YtalfepdfiehecaaDoorLowM
namespace Go.Proofs.YtalfepdfiehecaaDoor
open Go.RowKit Go.Shelf
set_option linter.unusedVariables false
set_option linter.unusedSimpArgs false
set_option maxRecDepth 100000

theorem frzM {P : Program} {f : FuncId} {args : List AV} {a b : Cache} (k : FRet P f args (mgRs a b)) (h : mgErr a b = 0) : FRet P f args [.agg (rcCache (mgV a b)), .c (.v (.int .i64 0))] := by
  rw [mgRs, if_pos h] at k
  have e : (mgV a b).1 = a.1 ∧ (mgV a b).2.1 = a.2.1 := by
    obtain ⟨_, _, B, _, hV, _⟩ := mgErr_zero h
    rw [hV]; exact ⟨rfl, rfl⟩
  refine k.frz2 ?_
  unfold rcCache
  rw [e.1, e.2]
  exact ⟨⟨rfl, rfl, rcF_row0 (enc := fBlob) (fun _ => rfl), rcF_row0 (enc := fEntry) (fun _ => rfl), trivial⟩, rfl, trivial⟩
theorem isDig_size {d : ByteArray} (h : isDig d = true) : (d.size : Int) ≤ 9223372036854775807 := by
  unfold isDig at h
  simp only [Bool.and_eq_true, beq_iff_eq] at h
  omega
theorem sb_right {c : Cache} (h : CRight c) : SBound c := by
  refine ⟨sbound_of h, fun b hb => isDig_size (by have := h.bok b hb; unfold blobOk at this; rw [Bool.and_eq_true] at this; exact this.1), fun e he => ?_⟩
  obtain ⟨h1, h2, _⟩ := entOk_iff.1 (h.eok e he)
  refine ⟨isDig_size h1, fun d hd => ?_⟩
  unfold ckDigsM at h2
  split at h2
  · cases h2
  · obtain ⟨i, hi⟩ := List.mem_iff_getElem?.1 hd
    have h3 := fe_zero h2 i (List.getElem?_eq_some_iff.1 hi).1
    rw [digErr_of hi] at h3
    by_cases h4 : isDig d = true
    · exact isDig_size h4
    · rw [if_neg h4] at h3; cases h3
set_option maxHeartbeats 4000000 in
theorem mergesMatch_law (a b : Cache) (ha : SBound a) (hb : SBound b) : FRet Tryd.prog 3 [aCache a, aCache b] [.c (.v (.bool true))] := by
  have k1 := Merged_f a b ha.1 hb.1
  have k2 := MergedR_f a b ha hb
  by_cases h : mgErr a b = 0
  · replace k1 := frzM k1 h
    replace k2 := frzM k2 h
    obtain ⟨_, _, B, _, hV, h2⟩ := mgErr_zero h
    have k3 := Same_f (mgV a b) (mgV a b) (sb_right (right_iff.1 h2))
    rw [show decide (mgV a b = mgV a b) = true by simp] at k3
    have dz : decide ((0 : Int) = 0) = true := rfl
    clear hV h2 h ha hb
    generalize mgV a b = x at *
    obtain ⟨room, lease, bl, en⟩ := a
    obtain ⟨room2, lease2, bl2, en2⟩ := b
    obtain ⟨xr, xl, xb, xe⟩ := x
    refine FCall.of_ax low_law7_CacheMergesMatchSpec ?_
    dsimp only [l_law7_CacheMergesMatchSpec, aCache, rcCache] at k1 k2 k3 ⊢
    refine srun_sound 300 _ _ _ _ ?_
    replace k1 := hide k1
    replace k2 := hide k2
    replace k3 := hide k3
    repeat' (first
      | (simp -implicitDefEqProofs only [*, addFp_wr, zr, Nat.reduceAdd, Nat.reduceSub, Nat.reduceMul, Nat.reduceLT, Nat.reduceLeDiff, Nat.reduceEqDiff, Nat.reduceBEq, reduceIte, reduceCtorEq, Int.reduceLE, Int.reduceLT, Int.reduceToNat, Int.reduceEq, Int.reduceNe])
      | ((first | apply zk0 | apply zk1 | apply zk2 | apply zk3 | apply zk4 | apply zk5 | apply zk6 | apply zk7 | apply zk8 | apply zk9) <;> intro hc)
      | (refine callP0 rfl ?_)
      | (refine callD0 rfl ?_)
      | (refine cP (k1.out) ?_)
      | (refine cD (k1.out) ?_)
      | (refine cF (k1.out) ?_)
      | (refine cP (k2.out) ?_)
      | (refine cD (k2.out) ?_)
      | (refine cF (k2.out) ?_)
      | (refine cP (k3.out) ?_)
      | (refine cD (k3.out) ?_)
      | (refine cF (k3.out) ?_)
      | (refine cP (awake_f) ?_)
      | (refine cD (awake_f) ?_)
      | (refine cF (awake_f) ?_)
      | fail)
    exact ret_v
  · rw [mgRs, if_neg h] at k1 k2
    have hE : SBound emptyC := by
      refine ⟨⟨by simp [emptyC], by simp [emptyC], ?_⟩, ?_, ?_⟩ <;> (intro e he; simp [emptyC] at he)
    have k3 := Same_f emptyC emptyC hE
    rw [show decide (emptyC = emptyC) = true by simp] at k3
    have dz : decide (mgErr a b = mgErr a b) = true := by simp
    generalize mgErr a b = q at *
    clear h ha hb
    obtain ⟨room, lease, bl, en⟩ := a
    obtain ⟨room2, lease2, bl2, en2⟩ := b
    refine FCall.of_ax low_law7_CacheMergesMatchSpec ?_
    dsimp only [l_law7_CacheMergesMatchSpec, aCache, zRs, emptyC, frBlobs, frEntries, List.map_nil] at k1 k2 k3 ⊢
    refine srun_sound 300 _ _ _ _ ?_
    replace k1 := hide k1
    replace k2 := hide k2
    replace k3 := hide k3
    repeat' (first
      | (simp -implicitDefEqProofs only [*, addFp_wr, zr, Nat.reduceAdd, Nat.reduceSub, Nat.reduceMul, Nat.reduceLT, Nat.reduceLeDiff, Nat.reduceEqDiff, Nat.reduceBEq, reduceIte, reduceCtorEq, Int.reduceLE, Int.reduceLT, Int.reduceToNat, Int.reduceEq, Int.reduceNe])
      | ((first | apply zk0 | apply zk1 | apply zk2 | apply zk3 | apply zk4 | apply zk5 | apply zk6 | apply zk7 | apply zk8 | apply zk9) <;> intro hc)
      | (refine callP0 rfl ?_)
      | (refine callD0 rfl ?_)
      | (refine cP (k1.out) ?_)
      | (refine cD (k1.out) ?_)
      | (refine cF (k1.out) ?_)
      | (refine cP (k2.out) ?_)
      | (refine cD (k2.out) ?_)
      | (refine cF (k2.out) ?_)
      | (refine cP (k3.out) ?_)
      | (refine cD (k3.out) ?_)
      | (refine cF (k3.out) ?_)
      | (refine cP (awake_f) ?_)
      | (refine cD (awake_f) ?_)
      | (refine cF (awake_f) ?_)
      | fail)
    exact ret_v
theorem args2m {G : Ghost} {Z : Nat → Prop} {w : World} {a b : AV} {u v : Value} (h1 : RepA G Z w a u) (h2 : RepA G Z w b v) : ∀ (j : Nat) (s : AV) (z : Value), [a, b][j]? = some s → (#[u, v] : Array Value)[j]? = some z → RepA G Z w s z := by
  intro j s z hy hz
  rcases j with _ | _ | j
  · obtain rfl := Option.some.inj hy; simp at hz; subst hz; exact h1
  · obtain rfl := Option.some.inj hy; simp at hz; subst hz; exact h2
  · simp at hy
theorem mergesMatch_any (cs ds : List Value) (a b : Cache) (W : World) (h : rCache W W.heap.size a cs) (h2 : rCache W W.heap.size b ds) : Calls Tryd.prog 3 #[.agg cs.toArray, .agg ds.toArray] W fun e w' => e = .returned (.bool true) ∧ Below W.heap.size W w' :=
  (mergesMatch_law a b (cache_bound h) (cache_bound h2)).callsA rfl (args2m (fz_cache.agg len_cache h) (fz_cache.agg len_cache h2))
end Go.Proofs.YtalfepdfiehecaaDoor
