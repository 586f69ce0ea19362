/-
  The cache's Whole on the machine. No statement of the seat is proved here; no conditions.
-/
import Derived.Test.YtalfepdfiehecaaDoorCaU
namespace Go.Proofs.YtalfepdfiehecaaDoor
open Go.RowKit Go.Shelf
set_option linter.unusedVariables false
set_option linter.unusedSimpArgs false
set_option maxRecDepth 100000

def alsoOf (bl : List Blob) (roots : List ByteArray) (en : List Entry) : List ByteArray := (en.filter fun e => hasS e.1 roots && decide ((missingOf bl e.2.1).length = 0)).flatMap fun e => e.2.1
def wantOf (c : Cache) (roots : List ByteArray) : List ByteArray := roots ++ alsoOf c.2.2.1 roots c.2.2.2
def goneB (c : Cache) (roots : List ByteArray) (at_ : Int) : List Blob := keepL (fun b : Blob => heldB b at_ || hasS b.1 (wantOf c roots)) c.2.2.1
def goneOf (c : Cache) (roots : List ByteArray) (at_ : Int) : List ByteArray := (goneB c roots at_).map fun b => b.1
def swept (c : Cache) (roots : List ByteArray) (at_ : Int) : Cache := (c.1,c.2.1,keepL (fun b : Blob => hasS b.1 (goneOf c roots at_)) c.2.2.1,keepL (fun e : Entry => !hasS e.1 roots) c.2.2.2)
theorem hasE_at {en : List Entry} {key : ByteArray} (hr : Rising (fun b : Entry => b.1) en) (h : hasE en key = true) : ∃ e,en[eIdx en key]? = some e ∧ e.1 = key := by
 have h1 : bsHit (fun b : Entry => cmpB b.1 key) en = true := by rw [bsHit_eq hr];exact h
 unfold bsHit at h1
 unfold eIdx
 split at h1
 ·rename_i x hx;exact ⟨x,hx,cmpB_eq.1 (of_decide_eq_true h1)⟩
 ·cases h1
def wholeV (c : Cache) (key : ByteArray) : Bool := match c.2.2.2[eIdx c.2.2.2 key]? with
 | some e => hasE c.2.2.2 key && decide ((missingOf c.2.2.1 e.2.1).length = 0)
 | none => false
def wholeErr (c : Cache) (key : ByteArray) : Int := if ckCache c ≠ 0 then ckCache c else if isDig key = true then 0 else 3
theorem Whole_f (c : Cache) (key : ByteArray) (hb : CBound c) : FRet Tryd.prog 13 [aCache c,.f (.str key)] [.c (.v (.bool (if wholeErr c key = 0 then wholeV c key else false))),.c (.v (.int .i64 (wholeErr c key)))] := by
 have hok := fun h : ckCache c = 0 => cok_of h
 refine FCall.of_ax low_cache_Whole ?_
 obtain ⟨room,lease,bl,en⟩ := c
 dsimp only [l_cache_Whole,aCache]
 refine srun_sound 300 _ _ _ _ ?_
 by_cases h0 : ckCache (room,lease,bl,en) = 0
 case neg =>
  have hd : decide (ckCache (room,lease,bl,en) = 0) = false := by simpa using h0
  have he : wholeErr (room,lease,bl,en) key = ckCache (room,lease,bl,en) := if_pos h0
  rw [he,if_neg h0]
  clear hok
  repeat' (first
   | (simp -implicitDefEqProofs only [*,frBlobs,frEntries,zr,Nat.reduceAdd,Nat.reduceSub,Nat.reduceMul,Nat.reduceLT,Nat.reduceLeDiff,Nat.reduceEqDiff,Nat.reduceBEq,reduceIte,reduceCtorEq,Int.reduceLE,Int.reduceLT,Int.reduceToNat,Int.reduceEq,Int.reduceNe])
   | ((first|apply zk0|apply zk1|apply zk2|apply zk3|apply zk4|apply zk5|apply zk6|apply zk7|apply zk8|apply zk9) <;> intro hc)
   |(refine callP0 rfl ?_)
   |(refine callD0 rfl ?_)
   |(refine cP (CheckCache_f isDigest_f (room,lease,bl,en) hb) ?_)
   |(refine cD (CheckCache_f isDigest_f (room,lease,bl,en) hb) ?_)
   |(refine cF (CheckCache_f isDigest_f (room,lease,bl,en) hb) ?_)
   |(refine cO (CheckCache_f isDigest_f (room,lease,bl,en) hb) ?_)
   | fail)
  exact ret_vve rfl rfl
 have hO := hok h0
 have hd : decide (ckCache (room,lease,bl,en) = 0) = true := by simpa using h0
 clear hok
 cases hk : isDig key
 ·have he : wholeErr (room,lease,bl,en) key = 3 := by unfold wholeErr;rw [if_neg (fun h => h h0),hk];rfl
  rw [he,if_neg (by decide)]
  clear hO
  repeat' (first
   | (simp -implicitDefEqProofs only [*,frBlobs,frEntries,zr,Nat.reduceAdd,Nat.reduceSub,Nat.reduceMul,Nat.reduceLT,Nat.reduceLeDiff,Nat.reduceEqDiff,Nat.reduceBEq,reduceIte,reduceCtorEq,Int.reduceLE,Int.reduceLT,Int.reduceToNat,Int.reduceEq,Int.reduceNe])
   | ((first|apply zk0|apply zk1|apply zk2|apply zk3|apply zk4|apply zk5|apply zk6|apply zk7|apply zk8|apply zk9) <;> intro hc)
   |(refine callP0 rfl ?_)
   |(refine callD0 rfl ?_)
   |(refine cP (CheckCache_f isDigest_f (room,lease,bl,en) hb) ?_)
   |(refine cD (CheckCache_f isDigest_f (room,lease,bl,en) hb) ?_)
   |(refine cF (CheckCache_f isDigest_f (room,lease,bl,en) hb) ?_)
   |(refine cO (CheckCache_f isDigest_f (room,lease,bl,en) hb) ?_)
   |(refine cP (isDigest_f key) ?_)
   |(refine cD (isDigest_f key) ?_)
   |(refine cF (isDigest_f key) ?_)
   |(refine cO (isDigest_f key) ?_)
   | fail)
  exact ret_vve rfl rfl
 have he : wholeErr (room,lease,bl,en) key = 0 := by unfold wholeErr;rw [if_neg (fun h => h h0),hk];rfl
 rw [he,if_pos rfl]
 clear he
 have hl3 : bl.length ≤ 1000000 := by have := hO.blen;simp only at this;omega
 have hrb : Rising (fun b : Blob => b.1) bl := hO.rb
 have hre : Rising (fun b : Entry => b.1) en := hO.re
 have hel : en.length ≤ 1000 := hO.elen
 have hel6 : en.length ≤ 1000000 := by omega
 have href : ∀ e ∈ en,e.2.1.length ≤ 200 := hO.refs
 have hRF := hide href
 have hRE := hide hre
 clear hO href h0
 cases hh : hasE en key
 ·have hv : wholeV (room,lease,bl,en) key = false := by
   unfold wholeV;simp only [hh,Bool.false_and];split <;> rfl
  rw [hv]
  repeat' (first
   | (simp -implicitDefEqProofs only [*,frBlobs,frEntries,zr,Nat.reduceAdd,Nat.reduceSub,Nat.reduceMul,Nat.reduceLT,Nat.reduceLeDiff,Nat.reduceEqDiff,Nat.reduceBEq,reduceIte,reduceCtorEq,Int.reduceLE,Int.reduceLT,Int.reduceToNat,Int.reduceEq,Int.reduceNe])
   | ((first|apply zk0|apply zk1|apply zk2|apply zk3|apply zk4|apply zk5|apply zk6|apply zk7|apply zk8|apply zk9) <;> intro hc)
   |(refine callP0 rfl ?_)
   |(refine callD0 rfl ?_)
   |(refine cP (CheckCache_f isDigest_f (room,lease,bl,en) hb) ?_)
   |(refine cD (CheckCache_f isDigest_f (room,lease,bl,en) hb) ?_)
   |(refine cF (CheckCache_f isDigest_f (room,lease,bl,en) hb) ?_)
   |(refine cO (CheckCache_f isDigest_f (room,lease,bl,en) hb) ?_)
   |(refine cP (isDigest_f key) ?_)
   |(refine cD (isDigest_f key) ?_)
   |(refine cF (isDigest_f key) ?_)
   |(refine cO (isDigest_f key) ?_)
   |(refine cP (entryAt_f (room,lease,bl,en) key hel6 hre) ?_)
   |(refine cD (entryAt_f (room,lease,bl,en) key hel6 hre) ?_)
   |(refine cF (entryAt_f (room,lease,bl,en) key hel6 hre) ?_)
   |(refine cO (entryAt_f (room,lease,bl,en) key hel6 hre) ?_)
   | fail)
  exact ret_vve rfl rfl
 ·obtain ⟨e,hx,hek⟩ := hasE_at hre hh
  have hv : wholeV (room,lease,bl,en) key = decide ((missingOf bl e.2.1).length = 0) := by
   unfold wholeV;simp only [hx,hh,Bool.true_and]
  rw [hv]
  have hxr := hRF.out e (List.mem_of_getElem? hx)
  have hlt := (List.getElem?_eq_some_iff.1 hx).1
  clear hv hek
  have hz : (decide ((missingOf bl e.2.1).length = 0)) = decide (((missingOf bl e.2.1).length : Int) = 0) := by
   rw [decide_eq_decide];omega
  rw [hz]
  have hx6 : e.2.1.length ≤ 1000000 := by omega
  repeat' (first
   | (simp -implicitDefEqProofs only [*,frBlobs,frEntries,addFp_wr,List.getElem?_map,Option.map_some,fEntry,frStrs,zr,Nat.reduceAdd,Nat.reduceSub,Nat.reduceMul,Nat.reduceLT,Nat.reduceLeDiff,Nat.reduceEqDiff,Nat.reduceBEq,reduceIte,reduceCtorEq,Int.reduceLE,Int.reduceLT,Int.reduceToNat,Int.reduceEq,Int.reduceNe])
   | ((first|apply zk0|apply zk1|apply zk2|apply zk3|apply zk4|apply zk5|apply zk6|apply zk7|apply zk8|apply zk9) <;> intro hc)
   |(refine callP0 rfl ?_)
   |(refine callD0 rfl ?_)
   |(refine cP (CheckCache_f isDigest_f (room,lease,bl,en) hb) ?_)
   |(refine cD (CheckCache_f isDigest_f (room,lease,bl,en) hb) ?_)
   |(refine cF (CheckCache_f isDigest_f (room,lease,bl,en) hb) ?_)
   |(refine cO (CheckCache_f isDigest_f (room,lease,bl,en) hb) ?_)
   |(refine cP (isDigest_f key) ?_)
   |(refine cD (isDigest_f key) ?_)
   |(refine cF (isDigest_f key) ?_)
   |(refine cO (isDigest_f key) ?_)
   |(refine cP (entryAt_f (room,lease,bl,en) key hel6 hre) ?_)
   |(refine cD (entryAt_f (room,lease,bl,en) key hel6 hre) ?_)
   |(refine cF (entryAt_f (room,lease,bl,en) key hel6 hre) ?_)
   |(refine cO (entryAt_f (room,lease,bl,en) key hel6 hre) ?_)
   |(refine cP (missing_f (room,lease,bl,en) e.2.1 hl3 hrb hx6) ?_)
   |(refine cD (missing_f (room,lease,bl,en) e.2.1 hl3 hrb hx6) ?_)
   |(refine cF (missing_f (room,lease,bl,en) e.2.1 hl3 hrb hx6) ?_)
   |(refine cO (missing_f (room,lease,bl,en) e.2.1 hl3 hrb hx6) ?_)
   | fail)
  exact ret_vve rfl rfl
end Go.Proofs.YtalfepdfiehecaaDoor
