/-
  cache.newest. No statement of the seat is proved here; no conditions.
-/
import Derived.Test.YtanhelgblnmdcaaDoorSto
namespace Go.Proofs.YtanhelgblnmdcaaDoor
open Go.RowKit Go.Shelf
set_option linter.unusedVariables false
set_option linter.unusedSimpArgs false
set_option maxRecDepth 100000

def maxB (bl : List Blob) (m : Int) : Int := bl.foldl (fun m b => max m b.2.2.1) m
def maxE (en : List Entry) (m : Int) : Int := en.foldl (fun m b => max m b.2.2) m
def newestV (bl : List Blob) (en : List Entry) : Int := maxE en (maxB bl 0)
theorem maxB_snoc {bl : List Blob} {b : Blob} {m : Int} : maxB (bl ++ [b]) m = max (maxB bl m) b.2.2.1 := by simp [maxB]
theorem maxE_snoc {bl : List Entry} {b : Entry} {m : Int} : maxE (bl ++ [b]) m = max (maxE bl m) b.2.2 := by simp [maxE]
set_option maxHeartbeats 1000000 in
theorem newest_f (c : Cache) (hb : c.2.2.1.length ≤ 1000000) (he : c.2.2.2.length ≤ 1000000) : FRet Tryd.prog 23 [aCache c] [.c (.v (.int .i64 (newestV c.2.2.1 c.2.2.2)))] := by
 obtain ⟨room,lease,bl,en⟩ := c
 simp only at hb he ⊢
 refine FCall.of_ax low_cache_newest ?_
 dsimp only [l_cache_newest,aCache]
 refine srun_sound 300 _ _ _ _ ?_
 repeat' (first
  | (simp -implicitDefEqProofs only [*,frBlobs,frEntries,zr,Nat.reduceAdd,Nat.reduceSub,Nat.reduceMul,Nat.reduceLT,Nat.reduceLeDiff,Nat.reduceEqDiff,Nat.reduceBEq,reduceIte,reduceCtorEq,Int.reduceLE,Int.reduceLT,Int.reduceToNat,Int.reduceEq,Int.reduceNe])
  | ((first|apply zk0|apply zk1|apply zk2|apply zk3|apply zk4|apply zk5|apply zk6|apply zk7|apply zk8|apply zk9) <;> intro hc)
  |(refine callP0 rfl ?_)
  |(refine callD0 rfl ?_)
  | fail)
 refine ax_loopU (S := Nat) 33 [1,9,10] [1] (fun s => [(3,.f (.int .i64 (maxB (bl.take s) 0))),(11,.f (.int .i64 s))]) (fun s => []) (fun s => s ≤ bl.length) (fun s => bl.length - s) (0) [] ?_ ?_ fun s hs => ?_
 ·exact Nat.zero_le _
 ·refine wk_i ?_ ?_ <;> simp only [List.take_zero,show maxB [] 0 = 0 from rfl,zw,Nat.reduceEqDiff,Nat.reduceBEq,Nat.reduceLT,Nat.reduceLeDiff,reduceIte,reduceCtorEq]
 refine srun_sound 300 _ _ _ _ ?_
 rcases Nat.lt_or_ge s bl.length with hlt | hge
 ·obtain ⟨x,hx⟩ := get_some hlt
  have h4 := inc64 hlt (by omega)
  have h2 := lt_t hlt
  have hs2 : maxB (bl.take (s + 1)) 0 = max (maxB (bl.take s) 0) x.2.2.1 := by rw [List.take_add_one,hx];exact maxB_snoc
  generalize maxB (bl.take s) 0 = m at *
  replace hs2 := hide hs2
  repeat' (first
   | (simp -implicitDefEqProofs only [*,List.getElem?_map,Option.map_some,fBlob,zr,Nat.reduceAdd,Nat.reduceSub,Nat.reduceMul,Nat.reduceLT,Nat.reduceLeDiff,Nat.reduceEqDiff,Nat.reduceBEq,reduceIte,reduceCtorEq,Int.reduceLE,Int.reduceLT,Int.reduceToNat,Int.reduceEq,Int.reduceNe])
   | ((first|apply zk0|apply zk1|apply zk2|apply zk3|apply zk4|apply zk5|apply zk6|apply zk7|apply zk8|apply zk9) <;> intro hc)
   |(refine callP0 rfl ?_)
   |(refine callD0 rfl ?_)
   | fail)
  refine ⟨s + 1,hlt,by omega,?_⟩
  rw [hs2.out]
  refine wk_i ?_ ?_ <;> simp only [zw,Nat.reduceEqDiff,Nat.reduceBEq,Nat.reduceLT,Nat.reduceLeDiff,reduceIte,reduceCtorEq]
 ·obtain rfl : s = bl.length := by omega
  have h2 := lt_f hge
  have h3 := List.take_length (l := bl)
  obtain ⟨mb,hmb⟩ : ∃ m,maxB bl 0 = m := ⟨_,rfl⟩
  have hN : newestV bl en = maxE en mb := by rw [newestV,hmb]
  rw [hN]
  replace hN := hide hN
  repeat' (first
   | (simp -implicitDefEqProofs only [*,hmb,zr,Nat.reduceAdd,Nat.reduceSub,Nat.reduceMul,Nat.reduceLT,Nat.reduceLeDiff,Nat.reduceEqDiff,Nat.reduceBEq,reduceIte,reduceCtorEq,Int.reduceLE,Int.reduceLT,Int.reduceToNat,Int.reduceEq,Int.reduceNe])
   | ((first|apply zk0|apply zk1|apply zk2|apply zk3|apply zk4|apply zk5|apply zk6|apply zk7|apply zk8|apply zk9) <;> intro hc)
   |(refine callP0 rfl ?_)
   |(refine callD0 rfl ?_)
   | fail)
  replace hmb := hide hmb
  refine ax_loopU (S := Nat) 33 [21,22] [] (fun s => [(3,.f (.int .i64 (maxE (en.take s) mb))),(23,.f (.int .i64 s))]) (fun s => []) (fun s => s ≤ en.length) (fun s => en.length - s) (0) [] ?_ ?_ fun s hs => ?_
  ·exact Nat.zero_le _
  ·refine wk_i ?_ ?_ <;> simp only [List.take_zero,show maxE [] mb = mb from rfl,zw,Nat.reduceEqDiff,Nat.reduceBEq,Nat.reduceLT,Nat.reduceLeDiff,reduceIte,reduceCtorEq]
  refine srun_sound 300 _ _ _ _ ?_
  rcases Nat.lt_or_ge s en.length with hlt | hge
  ·obtain ⟨x,hx⟩ := get_some hlt
   have h4 := inc64 hlt (by omega)
   have h2 := lt_t hlt
   have hs2 : maxE (en.take (s + 1)) mb = max (maxE (en.take s) mb) x.2.2 := by rw [List.take_add_one,hx];exact maxE_snoc
   generalize maxE (en.take s) mb = m at *
   replace hs2 := hide hs2
   repeat' (first
    | (simp -implicitDefEqProofs only [*,List.getElem?_map,Option.map_some,fEntry,zr,Nat.reduceAdd,Nat.reduceSub,Nat.reduceMul,Nat.reduceLT,Nat.reduceLeDiff,Nat.reduceEqDiff,Nat.reduceBEq,reduceIte,reduceCtorEq,Int.reduceLE,Int.reduceLT,Int.reduceToNat,Int.reduceEq,Int.reduceNe])
    | ((first|apply zk0|apply zk1|apply zk2|apply zk3|apply zk4|apply zk5|apply zk6|apply zk7|apply zk8|apply zk9) <;> intro hc)
    |(refine callP0 rfl ?_)
    |(refine callD0 rfl ?_)
    | fail)
   refine ⟨s + 1,hlt,by omega,?_⟩
   rw [hs2.out]
   refine wk_i ?_ ?_ <;> simp only [zw,Nat.reduceEqDiff,Nat.reduceBEq,Nat.reduceLT,Nat.reduceLeDiff,reduceIte,reduceCtorEq]
  ·obtain rfl : s = en.length := by omega
   have h2 := lt_f hge
   have h3 := List.take_length (l := en)
   repeat' (first
    | (simp -implicitDefEqProofs only [*,zr,Nat.reduceAdd,Nat.reduceSub,Nat.reduceMul,Nat.reduceLT,Nat.reduceLeDiff,Nat.reduceEqDiff,Nat.reduceBEq,reduceIte,reduceCtorEq,Int.reduceLE,Int.reduceLT,Int.reduceToNat,Int.reduceEq,Int.reduceNe])
    | ((first|apply zk0|apply zk1|apply zk2|apply zk3|apply zk4|apply zk5|apply zk6|apply zk7|apply zk8|apply zk9) <;> intro hc)
    |(refine callP0 rfl ?_)
    |(refine callD0 rfl ?_)
    | fail)
   exact ret_v
end Go.Proofs.YtanhelgblnmdcaaDoor
