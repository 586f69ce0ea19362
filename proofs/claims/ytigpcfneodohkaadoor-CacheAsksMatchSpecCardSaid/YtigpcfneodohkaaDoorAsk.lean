/-
  The laws CacheAsksMatchSpec and CacheSweepsMatchSpec walked. No statement of the seat is proved here; no conditions.
-/
import Derived.Test.YtigpcfneodohkaaDoorRfF
namespace Go.Proofs.YtigpcfneodohkaaDoor
open Go.RowKit Go.Shelf
set_option linter.unusedVariables false
set_option linter.unusedSimpArgs false
set_option maxRecDepth 100000

theorem rcF_strs {l : List ByteArray} {n : Nat} {cs : List FV} (hn : n = l.length) (hc : cs = l.map .str) : RcF (.own 1 n cs) (frStrs l) := by
  subst hn hc
  exact ⟨l.map fun s => [.str s], rfl, List.length_map _, fun r hr => by obtain ⟨y, _, rfl⟩ := List.mem_map.1 hr; rfl, by
    rw [Nat.mul_one, List.take_of_length_le (by rw [List.length_map]; exact Nat.le_refl _), flat_strs]⟩
def nextZ (c : Cache) (at_ : Int) : List ByteArray := if atE c at_ ≠ 0 then [] else digsB (leavV c.2.2.1 at_)
theorem nextR_z (c : Cache) (at_ : Int) (hb : SBound c) : FRet Tryd.prog 13 [aCache c, .f (.int .i64 at_)] [.c (.v (frStrs (nextZ c at_))), .c (.v (.int .i64 (atE c at_)))] := by
  refine (NextR_f c at_ hb).frz2 ?_
  unfold nextRs nextZ
  by_cases h : atE c at_ = 0
  · rw [if_neg (fun h2 => h2 h), if_neg (fun h2 => h2 h), h]
    exact ⟨rcF_strs (by simp [digsB]) rfl, rfl, trivial⟩
  · rw [if_pos h, if_pos h]
    exact ⟨rcF_strs rfl rfl, rfl, trivial⟩
theorem nextP_z (c : Cache) (at_ : Int) (hb : CBound c) : FRet Tryd.prog 9 [aCache c, .f (.int .i64 at_)] [.c (.v (frStrs (nextZ c at_))), .c (.v (.int .i64 (atE c at_)))] := by
  unfold nextZ
  by_cases h : atE c at_ = 0
  · rw [if_neg (fun h2 => h2 h), h]
    exact next_z c at_ hb h
  · rw [if_pos h]
    exact (next_bad c at_ hb h).frz2 ⟨rcF_strs rfl rfl, rfl, trivial⟩
theorem nextZ_len {c : Cache} {at_ : Int} : (nextZ c at_).length ≤ 1000000 := by
  unfold nextZ
  split
  · simp
  · rename_i h
    have := (cfacts (atE_cache (Classical.not_not.1 h))).b3
    unfold digsB; rw [List.length_map]; exact leav_len (by omega)
theorem FitsP_f (c : Cache) (n at_ : Int) (hb : CBound c) : FRet Tryd.prog 14 [aCache c, .f (.int .i64 n), .f (.int .i64 at_)] [.c (.v (.bool (fitsV c n at_))), .c (.v (.int .i64 (fitsErr c n at_)))] := by
  by_cases h : atE c at_ = 0
  · have hF := cfacts (atE_cache h)
    cases hn : inRg n 0 100000000
    · have he : fitsErr c n at_ = 1 := by unfold fitsErr; rw [if_neg (fun h2 => h2 h), hn]; rfl
      have hv : fitsV c n at_ = false := by unfold fitsV; rw [he]; rfl
      rw [he, hv]
      exact fits_out c n at_ hb h hn
    · have he : fitsErr c n at_ = 0 := by unfold fitsErr; rw [if_neg (fun h2 => h2 h), hn]; rfl
      have hb3 := hF.b3
      have h1 := fits_ok c n at_ hb (by omega) hF.rise h hn
      have hws : wsum c.2.2.1 = sumSz c.2.2.1 := wsum_eq (by omega) hF.sz
      have hwl : wsum (leavV c.2.2.1 at_) = sumSz (leavV c.2.2.1 at_) := wsum_leav (by omega) hF.sz
      have hst := stay_leav (bl := c.2.2.1) (at_ := at_)
      have hrg := sum_range hF.sz
      have hrm := hF.room
      have hnn : 0 ≤ n ∧ n ≤ 100000000 := by simpa [inRg] using hn
      have hv : fitsV c n at_ = decide (IntKind.i64.wrap (IntKind.i64.wrap (wsum c.2.2.1 + n) - c.1) ≤ wsum (leavV c.2.2.1 at_)) := by
        unfold fitsV
        rw [he, if_pos rfl, hws, hwl, wrap64 (n := sumSz c.2.2.1 + n) (by omega) (by omega), wrap64 (by omega) (by omega)]
        exact decide_eq_decide.2 (by omega)
      rw [he, hv]
      exact h1
  · have he : fitsErr c n at_ = atE c at_ := by unfold fitsErr; rw [if_pos h]
    have hv : fitsV c n at_ = false := by unfold fitsV; rw [he, if_neg h]
    rw [he, hv]
    exact fits_bad c n at_ hb h
set_option maxHeartbeats 2000000 in
theorem asks_law (c : Cache) (key : ByteArray) (n at_ : Int) (hb : SBound c) (hk : (key.size : Int) ≤ 9223372036854775807) : FRet Tryd.prog 4 [aCache c, .f (.str key), .f (.int .i64 n), .f (.int .i64 at_)] [.c (.v (.bool true))] := by
  have k1 := Whole_f c key hb.1
  have k2 := WholeR_f c key hb hk
  have k3 := nextP_z c at_ hb.1
  have k4 := nextR_z c at_ hb
  have k5 := FitsP_f c n at_ hb.1
  have k6 := FitsR_f c n at_ hb
  have hl := nextZ_len (c := c) (at_ := at_)
  generalize (if wholeErr c key = 0 then wholeV c key else false) = v1 at *
  generalize wholeErr c key = e1 at *
  generalize nextZ c at_ = l at *
  generalize atE c at_ = e2 at *
  generalize fitsV c n at_ = v2 at *
  generalize fitsErr c n at_ = e3 at *
  have kE := equalS_f l l (by omega)
  rw [show decide (l = l) = true by simp] at kE
  have b1 : (v1 == v1) = true := by simp
  have b2 : (v2 == v2) = true := by simp
  obtain ⟨room, lease, bl, en⟩ := c
  refine FCall.of_ax low_law7_CacheAsksMatchSpec ?_
  dsimp only [l_law7_CacheAsksMatchSpec, aCache] at k1 k2 k3 k4 k5 k6 ⊢
  refine srun_sound 300 _ _ _ _ ?_
  replace k1 := hide k1
  replace k2 := hide k2
  replace k3 := hide k3
  replace k4 := hide k4
  replace k5 := hide k5
  replace k6 := hide k6
  replace kE := hide kE
  clear hl
  repeat' (first
    | (simp -implicitDefEqProofs only [*, frBlobs, frEntries, frStrs, zr, Nat.reduceAdd, Nat.reduceSub, Nat.reduceMul, Nat.reduceLT, Nat.reduceLeDiff, Nat.reduceEqDiff, Nat.reduceBEq, reduceIte, reduceCtorEq, Int.reduceLE, Int.reduceLT, Int.reduceToNat, Int.reduceEq, Int.reduceNe])
    | ((first | apply zk0 | apply zk1 | apply zk2 | apply zk3 | apply zk4 | apply zk5 | apply zk6 | apply zk7 | apply zk8 | apply zk9) <;> intro hc)
    | (refine callP0 rfl ?_)
    | (refine callD0 rfl ?_)
    | (refine cP (k1.out) ?_)
    | (refine cD (k1.out) ?_)
    | (refine cF (k1.out) ?_)
    | (refine cO (k1.out) ?_)
    | (refine cP (k2.out) ?_)
    | (refine cD (k2.out) ?_)
    | (refine cF (k2.out) ?_)
    | (refine cO (k2.out) ?_)
    | (refine cP (k3.out) ?_)
    | (refine cD (k3.out) ?_)
    | (refine cF (k3.out) ?_)
    | (refine cO (k3.out) ?_)
    | (refine cP (k4.out) ?_)
    | (refine cD (k4.out) ?_)
    | (refine cF (k4.out) ?_)
    | (refine cO (k4.out) ?_)
    | (refine cP (k5.out) ?_)
    | (refine cD (k5.out) ?_)
    | (refine cF (k5.out) ?_)
    | (refine cO (k5.out) ?_)
    | (refine cP (k6.out) ?_)
    | (refine cD (k6.out) ?_)
    | (refine cF (k6.out) ?_)
    | (refine cO (k6.out) ?_)
    | (refine cP (kE.out) ?_)
    | (refine cD (kE.out) ?_)
    | (refine cF (kE.out) ?_)
    | (refine cO (kE.out) ?_)
    | (refine cP (awake_f) ?_)
    | (refine cD (awake_f) ?_)
    | (refine cF (awake_f) ?_)
    | (refine cO (awake_f) ?_)
    | fail)
  exact ret_v
theorem args4 {G : Ghost} {Z : Nat → Prop} {w : World} {a b c d : AV} {u v x y : Value} (h1 : RepA G Z w a u) (h2 : RepA G Z w b v) (h3 : RepA G Z w c x) (h4 : RepA G Z w d y) : ∀ (j : Nat) (s : AV) (z : Value), [a, b, c, d][j]? = some s → (#[u, v, x, y] : Array Value)[j]? = some z → RepA G Z w s z := by
  intro j s z hy hz
  rcases j with _ | _ | _ | _ | j
  · obtain rfl := Option.some.inj hy; simp at hz; subst hz; exact h1
  · obtain rfl := Option.some.inj hy; simp at hz; subst hz; exact h2
  · obtain rfl := Option.some.inj hy; simp at hz; subst hz; exact h3
  · obtain rfl := Option.some.inj hy; simp at hz; subst hz; exact h4
  · simp at hy
theorem asks_any (cs : List Value) (c : Cache) (key : ByteArray) (n at_ : Int) (W : World) (h : rCache W W.heap.size c cs) (hk : (key.size : Int) ≤ 9223372036854775807) : Calls Tryd.prog 4 #[.agg cs.toArray, .string key, .int .i64 n, .int .i64 at_] W fun e w' => e = .returned (.bool true) ∧ Below W.heap.size W w' :=
  (asks_law c key n at_ (cache_bound h) hk).callsA rfl (args4 (fz_cache.agg len_cache h) (.f (.str _)) (.f (.int _ _)) (.f (.int _ _)))
end Go.Proofs.YtigpcfneodohkaaDoor
