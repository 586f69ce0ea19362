/-
  The laws of a step of the cache: walks. No statement of the seat is proved here; no conditions.
-/
import Derived.Test.YtchiicfnejmmbaaDoorPlC
import Derived.Test.YtchiicfnejmmbaaDoorCaQ
import Derived.Test.YtchiicfnejmmbaaDoorShK
namespace Go.Proofs.YtchiicfnejmmbaaDoor
open Go.RowKit Go.Shelf
set_option linter.unusedVariables false
set_option linter.unusedSimpArgs false
set_option maxRecDepth 100000

set_option maxHeartbeats 4000000 in
theorem putIsThere_law (c : Cache) (d : ByteArray) (size at_ : Int) (hb : SBound c) : FRet Tryd.prog 3 [aCache c, .f (.str d), .f (.int .i64 size), .f (.int .i64 at_)] [.c (.v (.bool true))] := by
  have hl0 : (((1, at_, d, [], ⟨#[]⟩, size) : Ev).2.2.2.1.length : Int) ≤ 9223372036854775807 := by show ((0 : Nat) : Int) ≤ _; omega
  by_cases h : doErr c (1, at_, d, [], ⟨#[]⟩, size) = 0
  case neg =>
    have k1 := Do_no c (1, at_, d, [], ⟨#[]⟩, size) hb.1 hl0 h
    have hd : decide (doErr c (1, at_, d, [], ⟨#[]⟩, size) = 0) = false := dcF h
    generalize doErr c (1, at_, d, [], ⟨#[]⟩, size) = q at *
    clear h hl0
    obtain ⟨room, lease, bl, en⟩ := c
    refine FCall.of_ax low_law7_CachePutIsThere ?_
    dsimp only [l_law7_CachePutIsThere, aCache, aEv, zC, rAns] at k1 ⊢
    refine srun_sound 300 _ _ _ _ ?_
    replace k1 := hide k1
    repeat' (first
      | (simp -implicitDefEqProofs only [*, zr, Nat.reduceAdd, Nat.reduceSub, Nat.reduceMul, Nat.reduceLT, Nat.reduceLeDiff, Nat.reduceEqDiff, Nat.reduceBEq, reduceIte, reduceCtorEq, Int.reduceLE, Int.reduceLT, Int.reduceToNat, Int.reduceEq, Int.reduceNe])
      | ((first | apply zk0 | apply zk1 | apply zk2 | apply zk3 | apply zk4 | apply zk5 | apply zk6 | apply zk7 | apply zk8 | apply zk9) <;> intro hc)
      | (refine callP0 rfl ?_)
      | (refine callD0 rfl ?_)
      | (refine cP (k1.out) ?_)
      | (refine cD (k1.out) ?_)
      | (refine cF (k1.out) ?_)
      | (refine cP (awake_f) ?_)
      | (refine cD (awake_f) ?_)
      | (refine cF (awake_f) ?_)
      | fail)
    exact ret_v
  have k1 := Do_yes c (1, at_, d, [], ⟨#[]⟩, size) hb.1 hl0 h
  have hc0 := (doErr_right h).1
  have hx := doC_right (e := (1, at_, d, [], ⟨#[]⟩, size)) hc0
  obtain ⟨g1, g2⟩ := get_after h
  have k2 := Do_yes (doC c (1, at_, d, [], ⟨#[]⟩, size)) (2, at_, d, [], ⟨#[]⟩, 0) (sbound_of (right_iff.1 hx)) hl0 g1
  rw [g2] at k2
  have k3 := Same_f c c hb
  rw [show decide (c = c) = true by simp] at k3
  have hw := put_there h rfl
  dsimp only at hw
  generalize frzC (doR (doC c (1, at_, d, [], ⟨#[]⟩, size)) (2, at_, d, [], ⟨#[]⟩, 0)).2.2.2.1 = m2 at *
  generalize frzC (doR (doC c (1, at_, d, [], ⟨#[]⟩, size)) (2, at_, d, [], ⟨#[]⟩, 0)).2.2.2.2.1 = n2 at *
  generalize doC (doC c (1, at_, d, [], ⟨#[]⟩, size)) (2, at_, d, [], ⟨#[]⟩, 0) = y at *
  generalize doC c (1, at_, d, [], ⟨#[]⟩, size) = x at *
  generalize frzC (doR c (1, at_, d, [], ⟨#[]⟩, size)).2.2.2.1 = m1 at *
  generalize frzC (doR c (1, at_, d, [], ⟨#[]⟩, size)).2.2.2.2.1 = n1 at *
  generalize (doR c (1, at_, d, [], ⟨#[]⟩, size)).2.2.1 = b1 at *
  clear g1 g2 hx hc0 h hl0
  rcases hw with ⟨rfl, e2⟩ | ⟨rfl, e2, rfl, rfl⟩
  · rw [e2] at k2
    obtain ⟨room, lease, bl, en⟩ := c
    obtain ⟨xr, xl, xb, xe⟩ := x
    obtain ⟨yr, yl, yb, ye⟩ := y
    clear k3 e2
    refine FCall.of_ax low_law7_CachePutIsThere ?_
    dsimp only [l_law7_CachePutIsThere, aCache, aEv, rAns, rcCache] at k1 k2 ⊢
    refine srun_sound 300 _ _ _ _ ?_
    replace k1 := hide k1
    replace k2 := hide k2
    repeat' (first
      | (simp -implicitDefEqProofs only [*, addFp_wr, zr, Nat.reduceAdd, Nat.reduceSub, Nat.reduceMul, Nat.reduceLT, Nat.reduceLeDiff, Nat.reduceEqDiff, Nat.reduceBEq, reduceIte, reduceCtorEq, Int.reduceLE, Int.reduceLT, Int.reduceToNat, Int.reduceEq, Int.reduceNe])
      | ((first | apply zk0 | apply zk1 | apply zk2 | apply zk3 | apply zk4 | apply zk5 | apply zk6 | apply zk7 | apply zk8 | apply zk9) <;> intro hc)
      | (refine callP0 rfl ?_)
      | (refine callD0 rfl ?_)
      | (refine cP (k1.out) ?_)
      | (refine cD (k1.out) ?_)
      | (refine cF (k1.out) ?_)
      | (refine cP (k2.out) ?_)
      | (refine cD (k2.out) ?_)
      | (refine cF (k2.out) ?_)
      | (refine cP (awake_f) ?_)
      | (refine cD (awake_f) ?_)
      | (refine cF (awake_f) ?_)
      | fail)
    exact ret_v
  · rw [e2] at k2
    obtain ⟨room, lease, bl, en⟩ := x
    obtain ⟨yr, yl, yb, ye⟩ := y
    clear e2 hb
    refine FCall.of_ax low_law7_CachePutIsThere ?_
    dsimp only [l_law7_CachePutIsThere, aCache, aEv, rAns, rcCache] at k1 k2 k3 ⊢
    refine srun_sound 300 _ _ _ _ ?_
    replace k1 := hide k1
    replace k2 := hide k2
    replace k3 := hide k3
    have hz : decide (((0 : Nat) : Int) = 0) = true := rfl
    repeat' (first
      | (simp -implicitDefEqProofs only [*, addFp_wr, zr, Nat.reduceAdd, Nat.reduceSub, Nat.reduceMul, Nat.reduceLT, Nat.reduceLeDiff, Nat.reduceEqDiff, Nat.reduceBEq, reduceIte, reduceCtorEq, Int.reduceLE, Int.reduceLT, Int.reduceToNat, Int.reduceEq, Int.reduceNe])
      | ((first | apply zk0 | apply zk1 | apply zk2 | apply zk3 | apply zk4 | apply zk5 | apply zk6 | apply zk7 | apply zk8 | apply zk9) <;> intro hc)
      | (refine callP0 rfl ?_)
      | (refine callD0 rfl ?_)
      | (refine cP (k1.out) ?_)
      | (refine cD (k1.out) ?_)
      | (refine cF (k1.out) ?_)
      | (refine cP (k2.out) ?_)
      | (refine cD (k2.out) ?_)
      | (refine cF (k2.out) ?_)
      | (refine cP (k3.out) ?_)
      | (refine cD (k3.out) ?_)
      | (refine cF (k3.out) ?_)
      | (refine cP (awake_f) ?_)
      | (refine cD (awake_f) ?_)
      | (refine cF (awake_f) ?_)
      | fail)
    exact ret_v
end Go.Proofs.YtchiicfnejmmbaaDoor
