/-
  The walk of the law that a cache's text is as the document says, and the law at its arguments. No statement of the seat is proved here; no conditions.
-/
import Derived.Test.YthniagdphhcnkaaGreatDoorTyT
import Derived.Test.YthniagdphhcnkaaGreatDoorLaidA
namespace Go.Proofs.YthniagdphhcnkaaGreatDoor
open Go.RowKit Go.Shelf
set_option linter.unusedVariables false
set_option linter.unusedSimpArgs false
set_option maxRecDepth 100000

theorem sbound_right {c : Cache} (h : ckCache c = 0) : SBound c := by
 have hk := txOk_of h
 refine ⟨⟨by have := hk.blen;omega,by have := hk.elen;omega,fun e he => by have := (hk.en e he).2.2.1;omega⟩,fun b hb => by have := isDig_size (hk.bl b hb).1;omega,fun e he => ⟨by have := isDig_size (hk.en e he).1;omega,fun d hd => by have := isDig_size ((hk.en e he).2.2.2 d hd);omega⟩⟩
theorem readV_bound (t : ByteArray) : SBound (readV t).1 := by
 by_cases h : (readV t).2.2 = 0
 ·have h1 := txt_read h
  refine sbound_right ?_
  by_cases hk : ckCache (readV t).1 = 0
  ·exact hk
  ·unfold TextV at h1
   rw [if_neg hk] at h1
   exact absurd (congrArg Prod.snd h1) hk
 ·rw [read_bad h]
  refine ⟨⟨by decide,by decide,?_⟩,?_,?_⟩
  ·intro e he;cases he
  ·intro b hb;cases hb
  ·intro e he;cases he
set_option maxHeartbeats 8000000 in
theorem textsMatch_law (c : Cache) (hb : SBound c) (t : ByteArray) : FRet Tryz.prog 3 [aCache c,.f (.str t)] [.c (.v (.bool true))] := by
 have kT := Text_f c hb.1
 have kT2 := TextR_f c hb
 have kR := Read_z t
 have kR2 := ReadR_z t
 have kS := Same_f (readV t).1 (readV t).1 (readV_bound t)
 rw [show decide ((readV t).1 = (readV t).1) = true from decide_eq_true rfl] at kS
 clear hb
 generalize (TextV c).1 = s at *
 generalize (TextV c).2 = q at *
 generalize (readV t).2.1 = n at *
 generalize (readV t).2.2 = f at *
 generalize (readV t).1 = x at *
 have ds : decide (s = s) = true := dec_t rfl
 have dq : decide (q = q) = true := dec_t rfl
 have dn : decide (n = n) = true := dec_t rfl
 have df : decide (f = f) = true := dec_t rfl
 obtain ⟨room,lease,bl,en⟩ := c
 obtain ⟨xr,xl,xb,xe⟩ := x
 refine FCall.of_ax low_law7_CacheTextsMatchSpec ?_
 dsimp only [l_law7_CacheTextsMatchSpec,aCache,rcCache] at kT kT2 kR kR2 kS ⊢
 refine srun_sound 300 _ _ _ _ ?_
 replace kT := hide kT
 replace kT2 := hide kT2
 replace kR := hide kR
 replace kR2 := hide kR2
 replace kS := hide kS
 repeat' (first
  | (simp -implicitDefEqProofs only [*,addFp_wr,zr,Nat.reduceAdd,Nat.reduceSub,Nat.reduceMul,Nat.reduceLT,Nat.reduceLeDiff,Nat.reduceEqDiff,Nat.reduceBEq,reduceIte,reduceCtorEq,Int.reduceLE,Int.reduceLT,Int.reduceToNat,Int.reduceEq,Int.reduceNe])
  | ((first|apply zk0|apply zk1|apply zk2|apply zk3|apply zk4|apply zk5|apply zk6|apply zk7|apply zk8|apply zk9) <;> intro hc)
  |(refine callP0 rfl ?_)
  |(refine callD0 rfl ?_)
  |(refine cP (kT.out) ?_)
  |(refine cD (kT.out) ?_)
  |(refine cF (kT.out) ?_)
  |(refine cP (kT2.out) ?_)
  |(refine cD (kT2.out) ?_)
  |(refine cF (kT2.out) ?_)
  |(refine cP (kR.out) ?_)
  |(refine cD (kR.out) ?_)
  |(refine cF (kR.out) ?_)
  |(refine cP (kR2.out) ?_)
  |(refine cD (kR2.out) ?_)
  |(refine cF (kR2.out) ?_)
  |(refine cP (kS.out) ?_)
  |(refine cD (kS.out) ?_)
  |(refine cF (kS.out) ?_)
  |(refine cP (awake_f) ?_)
  |(refine cD (awake_f) ?_)
  |(refine cF (awake_f) ?_)
  | fail)
 exact ret_v
theorem kn_ofM {W : World} (h : Lib.TabIs Tryz.prog W "internal/strconv.uint64pow10" .u64 Lib.pow10Tab) : Kn Tryz.prog (fun b => b < W.heap.size) W := fun g hg => ⟨tab_lt hg h,h⟩
theorem args2m {G : Ghost} {Z : Nat → Prop} {w : World} {a b : AV} {u v : Value} (h1 : RepA G Z w a u) (h2 : RepA G Z w b v) : ∀ (j : Nat) (s : AV) (z : Value),[a,b][j]? = some s → (#[u,v] : Array Value)[j]? = some z → RepA G Z w s z := by
 intro j s z hs hz
 rcases j with _ | _ | j
 ·obtain rfl := Option.some.inj hs;obtain rfl := Option.some.inj hz;exact h1
 ·obtain rfl := Option.some.inj hs;obtain rfl := Option.some.inj hz;exact h2
 ·simp at hs
theorem textsMatch_any (cs : List Value) (c : Cache) (s : ByteArray) (W : World) (h : rCache W W.heap.size c cs) (ht : Lib.TabIs Tryz.prog W "internal/strconv.uint64pow10" .u64 Lib.pow10Tab) : Calls Tryz.prog 3 #[.agg cs.toArray,.string s] W fun e w' => e = .returned (.bool true) ∧ Below W.heap.size W w' :=
 (textsMatch_law c (cache_bound h) s).callsA rfl (args2m (fz_cache.agg len_cache h) (.f (.str _))) (kn_ofM ht)
end Go.Proofs.YthniagdphhcnkaaGreatDoor
