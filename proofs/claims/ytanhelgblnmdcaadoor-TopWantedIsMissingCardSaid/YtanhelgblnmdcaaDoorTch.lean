/-
  cache.touch. No statement of the seat is proved here; no conditions.
-/
import Derived.Test.YtanhelgblnmdcaaDoorInD
namespace Go.Proofs.YtanhelgblnmdcaaDoor
open Go.RowKit Go.Shelf
set_option linter.unusedVariables false
set_option linter.unusedSimpArgs false
set_option maxRecDepth 100000

theorem fz_ownc {H : Heap} {i1 v1 i2 v2 : Nat} {room lease : Int} {bl : List Blob} {en : List Entry} (h1 : cellsOf v1 (H i1) = some ((rowF fBlob bl).map .f)) (h2 : cellsOf v2 (H i2) = some ((rowF fEntry en).map .f)) : FzOk H (.agg [.f (.int .i64 room),.f (.int .i64 lease),.sl i1 v1 5 0 bl.length,.sl i2 v2 3 0 en.length]) (aCache (room,lease,bl,en)) := by
 refine fz_so ?_
 dsimp only [aCache]
 rw [so_aa,so_cons,so_cons,so_cons,so_cons,so_nil]
 exact ⟨so_f,so_f,so_row0 (enc := fBlob) (fun _ => rfl) rfl h1 rfl,so_row0 (enc := fEntry) (fun _ => rfl) rfl h2 rfl,trivial⟩
def tchB (lease at_ : Int) (uses holds : Bool) (b : Blob) : Blob := (b.1,b.2.1,if uses then at_ else b.2.2.1,if holds then max b.2.2.2.1 (IntKind.i64.wrap (at_ + lease)) else b.2.2.2.1,b.2.2.2.2)
def touch1 (lease at_ : Int) (uses holds : Bool) (bl : List Blob) (d : ByteArray) : List Blob := match bl[bIdx bl d]? with
 | some b => if hasB bl d then bl.set (bIdx bl d) (tchB lease at_ uses holds b) else bl
 | none => bl
def touchL (lease at_ : Int) (uses holds : Bool) (bl : List Blob) (ds : List ByteArray) : List Blob := ds.foldl (touch1 lease at_ uses holds) bl
theorem touch1_keys {lease at_ : Int} {uses holds : Bool} {bl : List Blob} {d : ByteArray} : (touch1 lease at_ uses holds bl d).map (fun b => b.1) = bl.map (fun b => b.1) := by
 unfold touch1
 split
 ·rename_i b hb
  split
  ·rw [List.map_set]
   apply List.ext_getElem?
   intro i
   rw [List.getElem?_set]
   split
   ·rename_i e
    subst e
    rw [List.getElem?_map,hb]
    split
    ·rfl
    ·rename_i hh
     exact absurd (by rw [List.length_map];exact (List.getElem?_eq_some_iff.1 hb).1) hh
   ·rfl
  ·rfl
 ·rfl
theorem touchL_keys {lease at_ : Int} {uses holds : Bool} : ∀ {ds : List ByteArray} {bl : List Blob},(touchL lease at_ uses holds bl ds).map (fun b => b.1) = bl.map (fun b => b.1)
 | [],bl => rfl
 | d :: ds,bl => by
  show (touchL lease at_ uses holds (touch1 lease at_ uses holds bl d) ds).map (fun b => b.1) = _
  rw [touchL_keys,touch1_keys]
theorem touchL_len {lease at_ : Int} {uses holds : Bool} {ds : List ByteArray} {bl : List Blob} : (touchL lease at_ uses holds bl ds).length = bl.length := by
 have := congrArg List.length (touchL_keys (lease := lease) (at_ := at_) (uses := uses) (holds := holds) (ds := ds) (bl := bl))
 simpa using this
theorem hasB_at {bl : List Blob} {d : ByteArray} (hr : Rising (fun b : Blob => b.1) bl) (h : hasB bl d = true) : ∃ y,bl[bIdx bl d]? = some y ∧ y.1 = d := by
 rw [hasB,← bsHit_eq hr,bsHit] at h
 show ∃ y,bl[bsIdx (fun b : Blob => cmpB b.1 d) bl]? = some y ∧ y.1 = d
 split at h
 ·rename_i y hy
  exact ⟨y,hy,by rw [decide_eq_true_eq,cmpB_eq] at h;exact h⟩
 ·cases h
theorem touchL_rise {lease at_ : Int} {uses holds : Bool} {ds : List ByteArray} {bl : List Blob} (h : Rising (fun b : Blob => b.1) bl) : Rising (fun b : Blob => b.1) (touchL lease at_ uses holds bl ds) := by
 intro i j x y hij hx hy
 have hk := touchL_keys (lease := lease) (at_ := at_) (uses := uses) (holds := holds) (ds := ds) (bl := bl)
 have f1 : ∀ (m : Nat) (z : Blob),(touchL lease at_ uses holds bl ds)[m]? = some z → ∃ z',bl[m]? = some z' ∧ z'.1 = z.1 := fun m z hz => by
  have : ((touchL lease at_ uses holds bl ds).map (fun b => b.1))[m]? = some z.1 := by rw [List.getElem?_map,hz];rfl
  rw [hk,List.getElem?_map] at this
  obtain ⟨z',h1,h2⟩ := Option.map_eq_some_iff.1 this
  exact ⟨z',h1,h2⟩
 obtain ⟨x',a1,a2⟩ := f1 i x hx
 obtain ⟨y',b1,b2⟩ := f1 j y hy
 show strLt x.1 y.1 = true
 rw [← a2,← b2]
 exact h i j x' y' hij a1 b1
theorem touchL_snoc {lease at_ : Int} {uses holds : Bool} {ds : List ByteArray} {bl : List Blob} {d : ByteArray} : touchL lease at_ uses holds bl (ds ++ [d]) = touch1 lease at_ uses holds (touchL lease at_ uses holds bl ds) d := by
 simp [touchL]
set_option maxHeartbeats 2000000 in
theorem touch_f (room lease : Int) (bl : List Blob) (en : List Entry) (ds : List ByteArray) (at_ : Int) (uses holds : Bool) (hb : bl.length ≤ 1000000) (hr : Rising (fun b : Blob => b.1) bl) (hd : ds.length ≤ 1000000) :
  FRetP Tryd.prog 26 [.v (.int .i64 room),.v (.int .i64 lease),.own 5 bl.length (rowF fBlob bl),.own 3 en.length (rowF fEntry en)] [] [.f (frStrs ds),.f (.int .i64 at_),.f (.bool uses),.f (.bool holds)]
   [.v (.int .i64 room),.v (.int .i64 lease),.own 5 bl.length (rowF fBlob (touchL lease at_ uses holds bl ds)),.own 3 en.length (rowF fEntry en)] [] := by
 refine FCall.of_ax low_cache_touch ?_
 dsimp only [l_cache_touch,frStrs]
 refine srun_sound 300 _ _ _ _ ?_
 repeat' (first
  | (simp -implicitDefEqProofs only [*,zr,Nat.reduceAdd,Nat.reduceSub,Nat.reduceMul,Nat.reduceLT,Nat.reduceLeDiff,Nat.reduceEqDiff,Nat.reduceBEq,reduceIte,reduceCtorEq,Int.reduceLE,Int.reduceLT,Int.reduceToNat,Int.reduceEq,Int.reduceNe])
  | ((first|apply zk0|apply zk1|apply zk2|apply zk3|apply zk4|apply zk5|apply zk6|apply zk7|apply zk8|apply zk9) <;> intro hc)
  |(refine callP0 rfl ?_)
  |(refine callD0 rfl ?_)
  | fail)
 refine ax_loopU (S := Nat) 67 [0,2,3,4,14,15] [81000,100001] (fun s => [(16,.f (.int .i64 s))]) (fun s => [(80000,1,AObj.cells ((rowF fBlob (touchL lease at_ uses holds bl (ds.take s))).map AV.f))]) (fun s => s ≤ ds.length) (fun s => ds.length - s) (0) [] ?_ ?_ fun s hs => ?_
 ·exact Nat.zero_le _
 ·refine wk_i ?_ ?_ <;> simp only [List.take_zero,show touchL lease at_ uses holds bl [] = bl from rfl,zw,Nat.reduceEqDiff,Nat.reduceBEq,Nat.reduceLT,Nat.reduceLeDiff,reduceIte,reduceCtorEq]
 refine srun_sound 300 _ _ _ _ ?_
 rcases Nat.lt_or_ge s ds.length with hlt | hge
 ·obtain ⟨x,hx⟩ := get_some hlt
  have h4 := inc64 hlt (by omega)
  have h2 := lt_t hlt
  have hs2 : touchL lease at_ uses holds bl (ds.take (s + 1)) = touch1 lease at_ uses holds (touchL lease at_ uses holds bl (ds.take s)) x := by rw [List.take_add_one,hx];exact touchL_snoc
  have hl2 : (touchL lease at_ uses holds bl (ds.take s)).length = bl.length := touchL_len
  have hR := touchL_rise (lease := lease) (at_ := at_) (uses := uses) (holds := holds) (ds := ds.take s) hr
  have hb2 : (touchL lease at_ uses holds bl (ds.take s)).length ≤ 1000000 := by rw [hl2];exact hb
  generalize touchL lease at_ uses holds bl (ds.take s) = B at *
  clear hb
  clear hr
  have hR2 := hide hR
  clear hR
  rw [← hl2]
  replace hl2 := hide hl2
  repeat' (first
   | (simp -implicitDefEqProofs only [*,List.getElem?_map,Option.map_some,zr,Nat.reduceAdd,Nat.reduceSub,Nat.reduceMul,Nat.reduceLT,Nat.reduceLeDiff,Nat.reduceEqDiff,Nat.reduceBEq,reduceIte,reduceCtorEq,Int.reduceLE,Int.reduceLT,Int.reduceToNat,Int.reduceEq,Int.reduceNe])
   | ((first|apply zk0|apply zk1|apply zk2|apply zk3|apply zk4|apply zk5|apply zk6|apply zk7|apply zk8|apply zk9) <;> intro hc)
   |(refine callP0 rfl ?_)
   |(refine callD0 rfl ?_)
   | fail)
  refine gG (find_f (room,lease,B,en) x hb2 hR2.out) ⟨fz_ownc rfl rfl,fz_f,trivial⟩ ?_
  cases hh : hasB B x
  ·have hx1 : touch1 lease at_ uses holds B x = B := by
    unfold touch1
    split
    ·rw [hh];rfl
    ·rfl
   repeat' (first
    | (simp -implicitDefEqProofs only [*,zr,Nat.reduceAdd,Nat.reduceSub,Nat.reduceMul,Nat.reduceLT,Nat.reduceLeDiff,Nat.reduceEqDiff,Nat.reduceBEq,reduceIte,reduceCtorEq,Int.reduceLE,Int.reduceLT,Int.reduceToNat,Int.reduceEq,Int.reduceNe])
    | ((first|apply zk0|apply zk1|apply zk2|apply zk3|apply zk4|apply zk5|apply zk6|apply zk7|apply zk8|apply zk9) <;> intro hc)
    |(refine callP0 rfl ?_)
    |(refine callD0 rfl ?_)
    | fail)
   refine ⟨s + 1,hlt,by omega,?_⟩
   rw [hs2,hx1]
   refine wk_i ?_ ?_ <;> simp only [zw,Nat.reduceEqDiff,Nat.reduceBEq,Nat.reduceLT,Nat.reduceLeDiff,reduceIte,reduceCtorEq]
  ·obtain ⟨y,hy,hyd⟩ := hasB_at hR2.out hh
   have hx1 : touch1 lease at_ uses holds B x = B.set (bIdx B x) (tchB lease at_ uses holds y) := by
    unfold touch1
    rw [hy,hh];rfl
   obtain ⟨i,hi⟩ : ∃ i,bIdx B x = i := ⟨_,rfl⟩
   rw [hi] at hx1 hy ⊢
   have hlt2 := (List.getElem?_eq_some_iff.1 hy).1
   have hL := lt_t hlt2
   replace hyd := hide hyd
   have hlen : ∀ C : List Blob,C.length = B.length → (rowF fBlob C).length = B.length * 5 := fun C h => by rw [row_len (sz := 5) (fun _ => rfl),h]
   have p2 : (i * 5 + 2 + 1 ≤ B.length * 5) = True := by rw [eq_iff_iff,iff_true];omega
   have p3 : (i * 5 + 3 + 1 ≤ B.length * 5) = True := by rw [eq_iff_iff,iff_true];omega
   have q0 := hlen B rfl
   have q1 := fun z => hlen (B.set i z) List.length_set
   clear hlen
   cases uses
   ·cases holds
    ·have e1 : B.set i (tchB lease at_ false false y) = B := by
      have : tchB lease at_ false false y = y := rfl
      rw [this]
      apply List.ext_getElem?
      intro m
      rw [List.getElem?_set]
      split
      ·rename_i e;subst e;exact hy.symm
      ·rfl
     repeat' (first
      | (simp -implicitDefEqProofs only [*,zr,Nat.reduceAdd,Nat.reduceSub,Nat.reduceMul,Nat.reduceLT,Nat.reduceLeDiff,Nat.reduceEqDiff,Nat.reduceBEq,reduceIte,reduceCtorEq,Int.reduceLE,Int.reduceLT,Int.reduceToNat,Int.reduceEq,Int.reduceNe])
      | ((first|apply zk0|apply zk1|apply zk2|apply zk3|apply zk4|apply zk5|apply zk6|apply zk7|apply zk8|apply zk9) <;> intro hc)
      |(refine callP0 rfl ?_)
      |(refine callD0 rfl ?_)
      | fail)
     refine ⟨s + 1,hlt,by omega,?_⟩
     rw [hs2,hx1,e1]
     refine wk_i ?_ ?_ <;> simp only [zw,Nat.reduceEqDiff,Nat.reduceBEq,Nat.reduceLT,Nat.reduceLeDiff,reduceIte,reduceCtorEq]
    ·have c3 := row_cell (enc := fBlob) (sz := 5) (j := 3) (fun _ => rfl) hy rfl
     have e1 := row_set1 (enc := fBlob) (sz := 5) (j := 3) (y := tchB lease at_ false true y) (v := .int .i64 (max y.2.2.2.1 (IntKind.i64.wrap (at_ + lease)))) (fun _ => rfl) hy (by omega) rfl
     rw [splice_1] at e1
     repeat' (first
      | (simp -implicitDefEqProofs only [*,zr,Nat.reduceAdd,Nat.reduceSub,Nat.reduceMul,Nat.reduceLT,Nat.reduceLeDiff,Nat.reduceEqDiff,Nat.reduceBEq,reduceIte,reduceCtorEq,Int.reduceLE,Int.reduceLT,Int.reduceToNat,Int.reduceEq,Int.reduceNe])
      | ((first|apply zk0|apply zk1|apply zk2|apply zk3|apply zk4|apply zk5|apply zk6|apply zk7|apply zk8|apply zk9) <;> intro hc)
      |(refine callP0 rfl ?_)
      |(refine callD0 rfl ?_)
      | fail)
     refine ⟨s + 1,hlt,by omega,?_⟩
     rw [hs2,hx1]
     refine wk_i ?_ ?_ <;> simp only [zw,Nat.reduceEqDiff,Nat.reduceBEq,Nat.reduceLT,Nat.reduceLeDiff,reduceIte,reduceCtorEq]
   ·have e1 := row_set1 (enc := fBlob) (sz := 5) (j := 2) (y := tchB lease at_ true false y) (v := .int .i64 at_) (fun _ => rfl) hy (by omega) rfl
    rw [splice_1] at e1
    cases holds
    ·repeat' (first
      | (simp -implicitDefEqProofs only [*,zr,Nat.reduceAdd,Nat.reduceSub,Nat.reduceMul,Nat.reduceLT,Nat.reduceLeDiff,Nat.reduceEqDiff,Nat.reduceBEq,reduceIte,reduceCtorEq,Int.reduceLE,Int.reduceLT,Int.reduceToNat,Int.reduceEq,Int.reduceNe])
      | ((first|apply zk0|apply zk1|apply zk2|apply zk3|apply zk4|apply zk5|apply zk6|apply zk7|apply zk8|apply zk9) <;> intro hc)
      |(refine callP0 rfl ?_)
      |(refine callD0 rfl ?_)
      | fail)
     refine ⟨s + 1,hlt,by omega,?_⟩
     rw [hs2,hx1]
     refine wk_i ?_ ?_ <;> simp only [zw,Nat.reduceEqDiff,Nat.reduceBEq,Nat.reduceLT,Nat.reduceLeDiff,reduceIte,reduceCtorEq]
    ·obtain ⟨y2,hy2⟩ : ∃ y2,tchB lease at_ true false y = y2 := ⟨_,rfl⟩
     rw [hy2] at e1
     have g2 : (B.set i y2)[i]? = some y2 := by rw [List.getElem?_set_self hlt2]
     have u2 : y2.2.2.2.1 = y.2.2.2.1 := by rw [← hy2];rfl
     have c3 := row_cell (enc := fBlob) (sz := 5) (j := 3) (fun _ => rfl) g2 rfl
     have e2 := row_set1 (enc := fBlob) (sz := 5) (j := 3) (y := tchB lease at_ true true y) (v := .int .i64 (max y2.2.2.2.1 (IntKind.i64.wrap (at_ + lease)))) (fun _ => rfl) g2 (by omega) (by rw [← hy2];rfl)
     rw [splice_1,List.set_set] at e2
     clear u2
     replace hy2 := hide hy2
     repeat' (first
      | (simp -implicitDefEqProofs only [*,zr,Nat.reduceAdd,Nat.reduceSub,Nat.reduceMul,Nat.reduceLT,Nat.reduceLeDiff,Nat.reduceEqDiff,Nat.reduceBEq,reduceIte,reduceCtorEq,Int.reduceLE,Int.reduceLT,Int.reduceToNat,Int.reduceEq,Int.reduceNe])
      | ((first|apply zk0|apply zk1|apply zk2|apply zk3|apply zk4|apply zk5|apply zk6|apply zk7|apply zk8|apply zk9) <;> intro hc)
      |(refine callP0 rfl ?_)
      |(refine callD0 rfl ?_)
      | fail)
     refine ⟨s + 1,hlt,by omega,?_⟩
     rw [hs2,hx1]
     refine wk_i ?_ ?_ <;> simp only [zw,Nat.reduceEqDiff,Nat.reduceBEq,Nat.reduceLT,Nat.reduceLeDiff,reduceIte,reduceCtorEq]
 ·obtain rfl : s = ds.length := by omega
  have h2 := lt_f hge
  have h3 := List.take_length (l := ds)
  repeat' (first
   | (simp -implicitDefEqProofs only [*,zr,Nat.reduceAdd,Nat.reduceSub,Nat.reduceMul,Nat.reduceLT,Nat.reduceLeDiff,Nat.reduceEqDiff,Nat.reduceBEq,reduceIte,reduceCtorEq,Int.reduceLE,Int.reduceLT,Int.reduceToNat,Int.reduceEq,Int.reduceNe])
   | ((first|apply zk0|apply zk1|apply zk2|apply zk3|apply zk4|apply zk5|apply zk6|apply zk7|apply zk8|apply zk9) <;> intro hc)
   |(refine callP0 rfl ?_)
   |(refine callD0 rfl ?_)
   | fail)
  exact ⟨[],[.f (.int .i64 room),.f (.int .i64 lease),.sl 80000 1 5 0 bl.length,.sl 81000 1 3 0 en.length],rfl,rfl,⟨rfl,rfl,.inr ⟨80000,1,rfl,rfl,by rw [row_len (sz := 5) (fun _ => rfl),touchL_len];exact Nat.le_refl _⟩,.inr ⟨81000,1,rfl,rfl,by rw [row_len (sz := 3) (fun _ => rfl)];exact Nat.le_refl _⟩,rfl⟩,rfl,by simp [idsC,idsS],by simp [idsC,idsS]⟩
end Go.Proofs.YtanhelgblnmdcaaDoor
