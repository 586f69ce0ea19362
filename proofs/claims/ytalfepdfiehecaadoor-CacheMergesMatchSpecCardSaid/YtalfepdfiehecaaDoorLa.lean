/-
  The laws of a step of the cache: walks. No statement of the seat is proved here; no conditions.
-/
import Derived.Test.YtalfepdfiehecaaDoorPlC
import Derived.Test.YtalfepdfiehecaaDoorCaQ
import Derived.Test.YtalfepdfiehecaaDoorShK
namespace Go.Proofs.YtalfepdfiehecaaDoor
open Go.RowKit Go.Shelf
set_option linter.unusedVariables false
set_option linter.unusedSimpArgs false
set_option maxRecDepth 100000

def blV (bl : List Blob) (d : ByteArray) : Blob × Bool := match bl.find? (fun b => decide (b.1 = d)) with
 | some y => (y,true)
 | none => ((⟨#[]⟩,0,0,0,0),false)
theorem find_hit {bl : List Blob} {d : ByteArray} {s : Nat} {y : Blob} (h : ∀ (k : Nat) (b : Blob),k < s → bl[k]? = some b → decide (b.1 = d) = false) (hy : bl[s]? = some y) (hd : decide (y.1 = d) = true) : blV bl d = (y,true) := by
 have : bl.find? (fun b => decide (b.1 = d)) = some y := by
  rw [List.find?_eq_some_iff_getElem]
  refine ⟨hd,s,(List.getElem?_eq_some_iff.1 hy).1,(List.getElem?_eq_some_iff.1 hy).2,fun j hj => ?_⟩
  have := h j _ hj (List.getElem?_eq_getElem (Nat.lt_trans hj (List.getElem?_eq_some_iff.1 hy).1))
  simpa using this
 rw [blV,this]
theorem find_no {bl : List Blob} {d : ByteArray} (h : ∀ (k : Nat) (b : Blob),k < bl.length → bl[k]? = some b → decide (b.1 = d) = false) : blV bl d = ((⟨#[]⟩,0,0,0,0),false) := by
 have : bl.find? (fun b => decide (b.1 = d)) = none := by
  rw [List.find?_eq_none]
  intro x hx
  obtain ⟨m,hm⟩ := List.mem_iff_getElem?.1 hx
  have := h m x (List.getElem?_eq_some_iff.1 hm).1 hm
  simpa using this
 rw [blV,this]
theorem blV_is {bl : List Blob} {d : ByteArray} : (blV bl d).2 = hasB bl d := by
 unfold blV hasB hasK
 cases h : bl.find? (fun b => decide (b.1 = d)) with
 | none =>
  rw [List.find?_eq_none] at h
  exact (List.any_eq_false.2 fun x hx => by simpa using h x hx).symm
 | some y =>
  have h1 := List.find?_some h
  exact (List.any_eq_true.2 ⟨y,List.mem_of_find?_eq_some h,h1⟩).symm
set_option maxHeartbeats 1000000 in
theorem blob_f (c : Cache) (d : ByteArray) (hl : (c.2.2.1.length : Int) ≤ 9223372036854775807) : FRet Tryd.prog 12 [aCache c,.f (.str d)] [.agg ((fBlob (blV c.2.2.1 d).1).map .v),.c (.v (.bool (blV c.2.2.1 d).2))] := by
 obtain ⟨room,lease,l,en⟩ := c
 dsimp only at hl ⊢
 refine FCall.of_ax low_law7_blob ?_
 dsimp only [l_law7_blob,aCache,frBlobs]
 refine srun_sound 300 _ _ _ _ ?_
 repeat' (first
  | (simp -implicitDefEqProofs only [*,zr,Nat.reduceAdd,Nat.reduceSub,Nat.reduceMul,Nat.reduceLT,Nat.reduceLeDiff,Nat.reduceEqDiff,Nat.reduceBEq,reduceIte,reduceCtorEq,Int.reduceLE,Int.reduceLT,Int.reduceToNat,Int.reduceEq,Int.reduceNe])
  | ((first|apply zk0|apply zk1|apply zk2|apply zk3|apply zk4|apply zk5|apply zk6|apply zk7|apply zk8|apply zk9) <;> intro hc)
  |(refine callP0 rfl ?_)
  |(refine callD0 rfl ?_)
  | fail)
 refine ax_loopU (S := Nat) 28 [1,2,4] [2,4] (fun s => [(6,.f (.int .i64 s))]) (fun s => []) (fun s => s ≤ l.length ∧ ∀ (k : Nat) (b : Blob),k < s → l[k]? = some b → decide (b.1 = d) = false) (fun s => l.length - s) (0) [] ?_ ?_ fun s hs => ?_
 ·exact ⟨Nat.zero_le _,fun k b h => absurd h (by omega)⟩
 ·refine wk_i ?_ ?_ <;> simp only [zw,Nat.reduceEqDiff,Nat.reduceBEq,Nat.reduceLT,Nat.reduceLeDiff,reduceIte,reduceCtorEq]
 obtain ⟨hi,hall⟩ := hs
 refine srun_sound 300 _ _ _ _ ?_
 have hA := hide hall
 clear hall
 rcases Nat.lt_or_ge s l.length with hlt | hge
 ·obtain ⟨y,hb⟩ := get_some hlt
  have h4 := inc64 hlt hl
  have h2 := lt_t hlt
  cases hp : decide (y.1 = d)
  ·repeat' (first
    | (simp -implicitDefEqProofs only [*,List.getElem?_map,Option.map_some,fBlob,zr,Nat.reduceAdd,Nat.reduceSub,Nat.reduceMul,Nat.reduceLT,Nat.reduceLeDiff,Nat.reduceEqDiff,Nat.reduceBEq,reduceIte,reduceCtorEq,Int.reduceLE,Int.reduceLT,Int.reduceToNat,Int.reduceEq,Int.reduceNe])
    | ((first|apply zk0|apply zk1|apply zk2|apply zk3|apply zk4|apply zk5|apply zk6|apply zk7|apply zk8|apply zk9) <;> intro hc)
    |(refine callP0 rfl ?_)
    |(refine callD0 rfl ?_)
    | fail)
   refine ⟨s + 1,⟨hlt,fun k b hk hb2 => ?_⟩,by omega,?_⟩
   ·rcases Nat.lt_succ_iff_lt_or_eq.1 hk with h1 | rfl
    ·exact hA.out k b h1 hb2
    ·rw [hb] at hb2;obtain rfl := Option.some.inj hb2;exact hp
   refine wk_i ?_ ?_ <;> simp only [zw,Nat.reduceEqDiff,Nat.reduceBEq,Nat.reduceLT,Nat.reduceLeDiff,reduceIte,reduceCtorEq]
  ·rw [find_hit hA.out hb hp]
   repeat' (first
    | (simp -implicitDefEqProofs only [*,List.getElem?_map,Option.map_some,fBlob,zr,Nat.reduceAdd,Nat.reduceSub,Nat.reduceMul,Nat.reduceLT,Nat.reduceLeDiff,Nat.reduceEqDiff,Nat.reduceBEq,reduceIte,reduceCtorEq,Int.reduceLE,Int.reduceLT,Int.reduceToNat,Int.reduceEq,Int.reduceNe])
    | ((first|apply zk0|apply zk1|apply zk2|apply zk3|apply zk4|apply zk5|apply zk6|apply zk7|apply zk8|apply zk9) <;> intro hc)
    |(refine callP0 rfl ?_)
    |(refine callD0 rfl ?_)
    | fail)
   exact ⟨[.agg [.f (.str y.1),.f (.int .i64 y.2.1),.f (.int .i64 y.2.2.1),.f (.int .i64 y.2.2.2.1),.f (.int .i64 y.2.2.2.2)],.f (.bool true)],rfl,⟨⟨rfl,rfl,rfl,rfl,rfl,rfl⟩,rfl,rfl⟩,by simp [idsS,idsC]⟩
 ·obtain rfl : s = l.length := by omega
  have h2 := lt_f hge
  rw [find_no hA.out]
  repeat' (first
   | (simp -implicitDefEqProofs only [*,fBlob,zr,Nat.reduceAdd,Nat.reduceSub,Nat.reduceMul,Nat.reduceLT,Nat.reduceLeDiff,Nat.reduceEqDiff,Nat.reduceBEq,reduceIte,reduceCtorEq,Int.reduceLE,Int.reduceLT,Int.reduceToNat,Int.reduceEq,Int.reduceNe])
   | ((first|apply zk0|apply zk1|apply zk2|apply zk3|apply zk4|apply zk5|apply zk6|apply zk7|apply zk8|apply zk9) <;> intro hc)
   |(refine callP0 rfl ?_)
   |(refine callD0 rfl ?_)
   | fail)
  exact ⟨[.agg [.f (.str ⟨#[]⟩),.f (.int .i64 0),.f (.int .i64 0),.f (.int .i64 0),.f (.int .i64 0)],.f (.bool false)],rfl,⟨⟨rfl,rfl,rfl,rfl,rfl,rfl⟩,rfl,rfl⟩,by simp [idsS,idsC]⟩
end Go.Proofs.YtalfepdfiehecaaDoor
