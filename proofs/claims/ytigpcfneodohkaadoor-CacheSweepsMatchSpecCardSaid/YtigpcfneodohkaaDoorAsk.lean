/-
  The laws CacheAsksMatchSpec and CacheSweepsMatchSpec walked. No statement of the seat is proved here; no conditions.
-/
import Derived.Test.YtigpcfneodohkaaDoorRfF
namespace Go.Proofs.YtigpcfneodohkaaDoor
open Go.RowKit Go.Shelf
set_option linter.unusedVariables false
set_option linter.unusedSimpArgs false
set_option maxRecDepth 100000

theorem rcF_strs {l : List ByteArray} {n : Nat} {cs : List FV} (hn : n = l.length) (hc : cs = l.map .str) : RcF (.own 1 n cs) (frStrs l) := by
  subst hn hc
  exact ⟨l.map fun s => [.str s], rfl, List.length_map _, fun r hr => by obtain ⟨y, _, rfl⟩ := List.mem_map.1 hr; rfl, by
    rw [Nat.mul_one, List.take_of_length_le (by rw [List.length_map]; exact Nat.le_refl _), flat_strs]⟩
/-- What both say. -/
def Both (P : Program) (f g : FuncId) (args : List AV) : Prop := ∃ (x : Cache) (l : List ByteArray) (e : Int), SBound x ∧ l.length ≤ 1000000 ∧ FRet P f args [.agg (rcCache x), .c (.v (frStrs l)), .c (.v (.int .i64 e))] ∧ FRet P g args [.agg (rcCache x), .c (.v (frStrs l)), .c (.v (.int .i64 e))]
theorem sb_empty : SBound emptyC := by
  refine ⟨⟨by decide, by decide, fun e he => (by cases he)⟩, fun e he => (by cases he), fun e he => (by cases he)⟩
theorem sb_shrunk {c : Cache} (room at_ : Int) (h : SBound c) : SBound (shrunk c room at_) := by
  obtain ⟨⟨h1, h2, h3⟩, h4, h5⟩ := h
  have k1 := keep_le (fun b : Blob => hasS b.1 (shrGone c room at_)) c.2.2.1
  refine ⟨⟨?_, h2, h3⟩, fun b hb => h4 b (mem_of_keep hb), h5⟩
  show ((keepL _ _).length : Int) ≤ _; omega
theorem swept_both (c : Cache) (roots : List ByteArray) (at_ : Int) (hb : SBound c) (hrl : (roots.length : Int) ≤ 9223372036854775807) (hrs : ∀ d ∈ roots, (d.size : Int) ≤ 9223372036854775807) : Both Tryd.prog 16 17 [aCache c, .f (frStrs roots), .f (.int .i64 at_)] := by
  have k1 := Swept_f c roots at_ hb.1 hrl
  have k2 := SweptR_f c roots at_ hb hrl hrs
  unfold sweptRs at k1
  unfold sweptRn at k2
  by_cases h : ckAt c at_ = 0
  · rw [if_neg (fun h2 => h2 h)] at k1 k2
    by_cases h2 : ckDigsM roots 3000 = 0
    · rw [if_neg (fun h3 => h3 h2)] at k1 k2
      have hlen : (goneOf c roots at_).length ≤ 1000000 := by
        have := (cfacts (ckAt_cache h)).b3
        unfold goneOf goneB; rw [List.length_map]
        exact Nat.le_trans (List.length_filter_le _ _) (by omega)
      exact ⟨swept c roots at_, goneOf c roots at_, 0, sbound_swept roots at_ hb, hlen, k1.frz2 ⟨rcOwn_fz _ _ _, rfl, rfl, trivial⟩, k2.frz2 ⟨rcOwn_fz _ _ _, rcF_strs rfl rfl, rfl, trivial⟩⟩
    · rw [if_pos h2] at k1 k2
      exact ⟨emptyC, [], _, sb_empty, by decide, k1.frz2 ⟨rcOwn_fz _ _ _, rfl, rfl, trivial⟩, k2.frz2 ⟨rcOwn_fz _ _ _, rcF_strs rfl rfl, rfl, trivial⟩⟩
  · rw [if_pos h] at k1 k2
    exact ⟨emptyC, [], _, sb_empty, by decide, k1.frz2 ⟨rcOwn_fz _ _ _, rfl, rfl, trivial⟩, k2.frz2 ⟨rcOwn_fz _ _ _, rcF_strs rfl rfl, rfl, trivial⟩⟩
theorem shrunk_both (c : Cache) (room at_ : Int) (hb : SBound c) : Both Tryd.prog 8 19 [aCache c, .f (.int .i64 room), .f (.int .i64 at_)] := by
  have k1 := Shrunk_f c room at_ hb.1
  have k2 := ShrunkR_f c room at_ hb
  unfold shrRs at k1
  unfold shrRn at k2
  by_cases h : shrErr c room at_ = 0
  · rw [if_neg (fun h2 => h2 h)] at k1 k2
    have hlen : (shrGone c room at_).length ≤ 1000000 := by
      have := (cfacts (atE_cache (shrErr_zero h).1)).b3
      unfold shrGone clrGone digsB; rw [List.length_map, List.length_take]
      have := leav_len (at_ := at_) (bl := c.2.2.1) (by omega)
      omega
    exact ⟨shrunk c room at_, shrGone c room at_, 0, sb_shrunk room at_ hb, hlen, k1.frz2 ⟨rcOwn_fz _ _ _, rfl, rfl, trivial⟩, k2.frz2 ⟨rcOwn_fz _ _ _, rcF_strs rfl rfl, rfl, trivial⟩⟩
  · rw [if_pos h] at k1 k2
    exact ⟨emptyC, [], _, sb_empty, by decide, k1.frz2 ⟨rcOwn_fz _ _ _, rfl, rfl, trivial⟩, k2.frz2 ⟨rcOwn_fz _ _ _, rcF_strs rfl rfl, rfl, trivial⟩⟩
set_option maxHeartbeats 2000000 in
theorem sweeps_law (c : Cache) (roots : List ByteArray) (room at_ : Int) (hb : SBound c) (hrl : (roots.length : Int) ≤ 9223372036854775807) (hrs : ∀ d ∈ roots, (d.size : Int) ≤ 9223372036854775807) : FRet Tryd.prog 5 [aCache c, .f (frStrs roots), .f (.int .i64 room), .f (.int .i64 at_)] [.c (.v (.bool true))] := by
  obtain ⟨x, l, e, hx, hl, k1, k2⟩ := swept_both c roots at_ hb hrl hrs
  obtain ⟨y, m, g, hy, hm, k3, k4⟩ := shrunk_both c room at_ hb
  have kS := Same_f x x hx
  have kT := Same_f y y hy
  rw [show decide (x = x) = true by simp] at kS
  rw [show decide (y = y) = true by simp] at kT
  have kE := equalS_f l l (by omega)
  have kF := equalS_f m m (by omega)
  rw [show decide (l = l) = true by simp] at kE
  rw [show decide (m = m) = true by simp] at kF
  obtain ⟨r0, lease, bl, en⟩ := c
  obtain ⟨xr, xl, xb, xe⟩ := x
  obtain ⟨yr, yl, yb, ye⟩ := y
  refine FCall.of_ax low_law7_CacheSweepsMatchSpec ?_
  dsimp only [l_law7_CacheSweepsMatchSpec, aCache] at k1 k2 k3 k4 kS kT ⊢
  refine srun_sound 300 _ _ _ _ ?_
  replace k1 := hide k1
  replace k2 := hide k2
  replace k3 := hide k3
  replace k4 := hide k4
  replace kS := hide kS
  replace kT := hide kT
  replace kE := hide kE
  replace kF := hide kF
  clear hl hm hx hy
  repeat' (first
    | (simp -implicitDefEqProofs only [*, frBlobs, frEntries, frStrs, rcCache, zr, Nat.reduceAdd, Nat.reduceSub, Nat.reduceMul, Nat.reduceLT, Nat.reduceLeDiff, Nat.reduceEqDiff, Nat.reduceBEq, reduceIte, reduceCtorEq, Int.reduceLE, Int.reduceLT, Int.reduceToNat, Int.reduceEq, Int.reduceNe])
    | ((first | apply condS_splitN | apply condS_split | apply guardS_splitTN | apply guardS_splitFN | apply guardD_splitTN | apply guardD_splitFN | apply guardS_splitT | apply guardS_splitF | apply guardD_splitT | apply guardD_splitF) <;> intro hc)
    | (refine callP0 rfl ?_)
    | (refine callD0 rfl ?_)
    | (refine cP (k1.out) ?_)
    | (refine cD (k1.out) ?_)
    | (refine cF (k1.out) ?_)
    | (refine cO (k1.out) ?_)
    | (refine cP (k2.out) ?_)
    | (refine cD (k2.out) ?_)
    | (refine cF (k2.out) ?_)
    | (refine cO (k2.out) ?_)
    | (refine cP (k3.out) ?_)
    | (refine cD (k3.out) ?_)
    | (refine cF (k3.out) ?_)
    | (refine cO (k3.out) ?_)
    | (refine cP (k4.out) ?_)
    | (refine cD (k4.out) ?_)
    | (refine cF (k4.out) ?_)
    | (refine cO (k4.out) ?_)
    | (refine cP (kS.out) ?_)
    | (refine cD (kS.out) ?_)
    | (refine cF (kS.out) ?_)
    | (refine cO (kS.out) ?_)
    | (refine cP (kT.out) ?_)
    | (refine cD (kT.out) ?_)
    | (refine cF (kT.out) ?_)
    | (refine cO (kT.out) ?_)
    | (refine cP (kE.out) ?_)
    | (refine cD (kE.out) ?_)
    | (refine cF (kE.out) ?_)
    | (refine cO (kE.out) ?_)
    | (refine cP (kF.out) ?_)
    | (refine cD (kF.out) ?_)
    | (refine cF (kF.out) ?_)
    | (refine cO (kF.out) ?_)
    | (refine cP (awake_f) ?_)
    | (refine cD (awake_f) ?_)
    | (refine cF (awake_f) ?_)
    | (refine cO (awake_f) ?_)
    | fail)
  exact ret_v
theorem args4 {G : Ghost} {Z : Nat → Prop} {w : World} {a b c d : AV} {u v x y : Value} (h1 : RepA G Z w a u) (h2 : RepA G Z w b v) (h3 : RepA G Z w c x) (h4 : RepA G Z w d y) : ∀ (j : Nat) (s : AV) (z : Value), [a, b, c, d][j]? = some s → (#[u, v, x, y] : Array Value)[j]? = some z → RepA G Z w s z := by
  intro j s z hy hz
  rcases j with _ | _ | _ | _ | j
  · obtain rfl := Option.some.inj hy; simp at hz; subst hz; exact h1
  · obtain rfl := Option.some.inj hy; simp at hz; subst hz; exact h2
  · obtain rfl := Option.some.inj hy; simp at hz; subst hz; exact h3
  · obtain rfl := Option.some.inj hy; simp at hz; subst hz; exact h4
  · simp at hy
theorem sweeps_any (cs : List Value) (c : Cache) (A : Option Addr) (n k : Nat) (roots : List ByteArray) (room at_ : Int) (W : World) (h : rCache W W.heap.size c cs) (hr : rSl 1 16 rStr W W.heap.size roots [.slice A n k]) : Calls Tryd.prog 5 #[.agg cs.toArray, .slice A n k, .int .i64 room, .int .i64 at_] W fun e w' => e = .returned (.bool true) ∧ Below W.heap.size W w' :=
  (sweeps_law c roots room at_ (cache_bound h) hr.all.1 (fun d hd => by obtain ⟨vs, h4⟩ := hr.all.2 d hd; exact str_bound h4)).callsA rfl (args4 (fz_cache.agg len_cache h) (.f (fz_strs.one (a := frStrs) hr)) (.f (.int _ _)) (.f (.int _ _)))
end Go.Proofs.YtigpcfneodohkaaDoor
