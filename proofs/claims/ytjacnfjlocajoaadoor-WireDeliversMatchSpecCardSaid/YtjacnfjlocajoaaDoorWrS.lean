/-
  A receiver takes a message. No statement of the seat is proved here; no conditions.
-/
import Derived.Test.YtjacnfjlocajoaaDoorWr8
namespace Go.Proofs.YtjacnfjlocajoaaDoor
open Go.RowKit Go.Shelf
set_option linter.unusedVariables false
set_option linter.unusedSimpArgs false
set_option maxRecDepth 100000

theorem beg2_nil {D : List Ob} {P : List Pt} {t : ByteArray} {s : Int} : (beg2 D P t s).2.2.2.2.2.2 = [] := by
 unfold beg2 wholeV
 repeat' split
 all_goals rfl
theorem whole_nil {D : List Ob} {P : List Pt} {t : ByteArray} {b : List UInt8} : (wholeV D P t b).2.2.2.2.2.2 = [] := by
 unfold wholeV
 repeat' split
 all_goals rfl
theorem take_nil {D : List Ob} {P : List Pt} {m : Mg} : (takeV D P m).2.2.2.2.2.2 = [] := by
 unfold takeV
 split
 ·rfl
 split
 ·rfl
 split
 ·rfl
 split
 ·unfold beginV
  split
  ·exact beg2_nil
  ·split
   ·rfl
   ·exact beg2_nil
 split
 ·rfl
 split
 ·unfold dataV
  split
  ·rfl
  split
  ·split
   ·rfl
   split
   ·rfl
   ·exact whole_nil
  ·rfl
 ·rfl
def rRc (r : Rc) : RS := .agg [.own 2 r.1.length (rowF fOb r.1),.own 3 r.2.length (rowF fPt r.2)]
theorem own_hiq {D : List Ob} {P : List Pt} {t : ByteArray} (r : AV) (hl : List (Nat × Nat × AObj)) (h : r = .agg [.sl 100002 1 2 0 D.length,.sl 100101 1 3 0 P.length] ∧ hl = hiRc D P t 1 1 1) : r.hi = true ∧ hiObjs hl = true := by
 obtain ⟨rfl,rfl⟩ := h
 refine ⟨rfl,?_⟩
 unfold hiObjs hiRc
 simp only [List.all_cons,List.all_nil,Bool.and_true,Bool.and_eq_true]
 exact ⟨hi_fs _,hi_rowA (fun _ => rfl) P,hi_fs _⟩
theorem hl_c {H H' : Heap} {i v : Nat} {cs cs0 : List AV} {l : List (Nat × Nat × AObj)} (h : (H i).2 = some (.cells cs0)) (h2 : SlotsOk H H' [] cs0 cs) (h3 : HlOk H H' [] l) : HlOk H H' [] ((i,v,.cells cs) :: l) := ⟨by rw [if_neg (by simp)];exact ⟨cs0,h,h2⟩,h3⟩
theorem so_frYs {H H' : Heap} {nw : List Nat} {b : List UInt8} : SlotsOk H H' nw (frY b) (frY b) := so_fs2
theorem tl_frY {τ : Turn} {b : List UInt8} : AV.turnL τ (frY b) = frY b := tl_fs
end Go.Proofs.YtjacnfjlocajoaaDoor
namespace Go.Proofs.YtjacnfjlocajoaaDoor
open Go.RowKit Go.Shelf
set_option linter.unusedVariables false
set_option linter.unusedSimpArgs false
set_option maxRecDepth 100000

theorem sameRc_f (r : Rc) (hl : (r.1.length : Int) ≤ 9223372036854775807 ∧ (r.2.length : Int) ≤ 9223372036854775807) (hb : (∀ x ∈ r.1,(x.2.length : Int) ≤ 9223372036854775807) ∧ ∀ x ∈ r.2,(x.2.2.length : Int) ≤ 9223372036854775807) : FRet Tryd.prog 11 [aRc r,aRc r] [.c (.v (.bool true))] := by
 obtain ⟨D,P⟩ := r
 obtain ⟨hl1,hl2⟩ := hl
 obtain ⟨hb1,hb2⟩ := hb
 dsimp only at hl1 hl2 hb1 hb2
 replace hb1 := hide hb1
 replace hb2 := hide hb2
 refine FCall.of_ax low_ref8_SameReceiver ?_
 dsimp only [l_ref8_SameReceiver,aRc,frObs,frPts]
 refine srun_sound 300 _ _ _ _ ?_
 repeat' (first
  | (simp -implicitDefEqProofs only [*,frB,zr,Nat.reduceAdd,Nat.reduceSub,Nat.reduceMul,Nat.reduceLT,Nat.reduceLeDiff,Nat.reduceEqDiff,Nat.reduceBEq,reduceIte,reduceCtorEq,Int.reduceLE,Int.reduceLT,Int.reduceToNat,Int.reduceEq,Int.reduceNe])
  | ((first|apply zk0|apply zk1|apply zk2|apply zk3|apply zk4|apply zk5|apply zk6|apply zk7|apply zk8|apply zk9) <;> intro hc)
  |(refine callP0 rfl ?_)
  |(refine callD0 rfl ?_)
  | fail)
 refine ax_loopU (S := Nat) 110 [2,3,25] [2,3] (fun s => [(26,.f (.int .i64 s))]) (fun s => []) (fun s => s ≤ D.length) (fun s => D.length - s) (0) [] ?_ ?_ fun s hs => ?_
 ·exact Nat.zero_le _
 ·refine wk_i ?_ ?_ <;> simp only [zw,Nat.reduceEqDiff,Nat.reduceBEq,Nat.reduceLT,Nat.reduceLeDiff,reduceIte,reduceCtorEq]
 refine srun_sound 300 _ _ _ _ ?_
 rcases Nat.lt_or_ge s D.length with hlt | hge
 ·obtain ⟨x,hx⟩ := get_some hlt
  have h4 := inc64 hlt hl1
  have h2 := lt_t hlt
  have ke := equalY_f x.2 x.2 (hb1.out x (List.mem_of_getElem? hx))
  rw [decide_eq_true rfl] at ke
  obtain ⟨xd,xb⟩ := x
  repeat' (first
   | (simp -implicitDefEqProofs only [*,List.getElem?_map,Option.map_some,fOb,zr,Nat.reduceAdd,Nat.reduceSub,Nat.reduceMul,Nat.reduceLT,Nat.reduceLeDiff,Nat.reduceEqDiff,Nat.reduceBEq,reduceIte,reduceCtorEq,Int.reduceLE,Int.reduceLT,Int.reduceToNat,Int.reduceEq,Int.reduceNe])
   | ((first|apply zk0|apply zk1|apply zk2|apply zk3|apply zk4|apply zk5|apply zk6|apply zk7|apply zk8|apply zk9) <;> intro hc)
   |(refine callP0 rfl ?_)
   |(refine callD0 rfl ?_)
   |(refine cP (ke) ?_)
   |(refine cD (ke) ?_)
   |(refine cF (ke) ?_)
   | fail)
  refine ⟨s + 1,hlt,by omega,?_⟩
  refine wk_i ?_ ?_ <;> simp only [zw,Nat.reduceEqDiff,Nat.reduceBEq,Nat.reduceLT,Nat.reduceLeDiff,reduceIte,reduceCtorEq]
 ·obtain rfl : s = D.length := by omega
  have h2 := lt_f hge
  clear hge hs
  repeat' (first
   | (simp -implicitDefEqProofs only [*,zr,Nat.reduceAdd,Nat.reduceSub,Nat.reduceMul,Nat.reduceLT,Nat.reduceLeDiff,Nat.reduceEqDiff,Nat.reduceBEq,reduceIte,reduceCtorEq,Int.reduceLE,Int.reduceLT,Int.reduceToNat,Int.reduceEq,Int.reduceNe])
   | ((first|apply zk0|apply zk1|apply zk2|apply zk3|apply zk4|apply zk5|apply zk6|apply zk7|apply zk8|apply zk9) <;> intro hc)
   |(refine callP0 rfl ?_)
   |(refine callD0 rfl ?_)
   | fail)
  refine ax_loopU (S := Nat) 110 [2,3,61] [2,3] (fun s => [(62,.f (.int .i64 s))]) (fun s => []) (fun s => s ≤ P.length) (fun s => P.length - s) (0) [] ?_ ?_ fun s hs => ?_
  ·exact Nat.zero_le _
  ·refine wk_i ?_ ?_ <;> simp only [zw,Nat.reduceEqDiff,Nat.reduceBEq,Nat.reduceLT,Nat.reduceLeDiff,reduceIte,reduceCtorEq]
  refine srun_sound 300 _ _ _ _ ?_
  clear h2
  rcases Nat.lt_or_ge s P.length with hlt | hge
  ·obtain ⟨x,hx⟩ := get_some hlt
   have h4 := inc64 hlt hl2
   have h2 := lt_t hlt
   have ke := equalY_f x.2.2 x.2.2 (hb2.out x (List.mem_of_getElem? hx))
   rw [decide_eq_true rfl] at ke
   obtain ⟨xd,xs,xb⟩ := x
   repeat' (first
    | (simp -implicitDefEqProofs only [*,List.getElem?_map,Option.map_some,fPt,zr,Nat.reduceAdd,Nat.reduceSub,Nat.reduceMul,Nat.reduceLT,Nat.reduceLeDiff,Nat.reduceEqDiff,Nat.reduceBEq,reduceIte,reduceCtorEq,Int.reduceLE,Int.reduceLT,Int.reduceToNat,Int.reduceEq,Int.reduceNe])
    | ((first|apply zk0|apply zk1|apply zk2|apply zk3|apply zk4|apply zk5|apply zk6|apply zk7|apply zk8|apply zk9) <;> intro hc)
    |(refine callP0 rfl ?_)
    |(refine callD0 rfl ?_)
    |(refine cP (ke) ?_)
    |(refine cD (ke) ?_)
    |(refine cF (ke) ?_)
    | fail)
   refine ⟨s + 1,hlt,by omega,?_⟩
   refine wk_i ?_ ?_ <;> simp only [zw,Nat.reduceEqDiff,Nat.reduceBEq,Nat.reduceLT,Nat.reduceLeDiff,reduceIte,reduceCtorEq]
  ·obtain rfl : s = P.length := by omega
   have h2 := lt_f hge
   clear hge hs
   repeat' (first
    | (simp -implicitDefEqProofs only [*,zr,Nat.reduceAdd,Nat.reduceSub,Nat.reduceMul,Nat.reduceLT,Nat.reduceLeDiff,Nat.reduceEqDiff,Nat.reduceBEq,reduceIte,reduceCtorEq,Int.reduceLE,Int.reduceLT,Int.reduceToNat,Int.reduceEq,Int.reduceNe])
    | ((first|apply zk0|apply zk1|apply zk2|apply zk3|apply zk4|apply zk5|apply zk6|apply zk7|apply zk8|apply zk9) <;> intro hc)
    |(refine callP0 rfl ?_)
    |(refine callD0 rfl ?_)
    | fail)
   exact ret_v
def oGet (D : List Ob) (t : ByteArray) : Option Ob := if hasK kOb D t = true then D[obIdx D t]? else none
theorem oGet_some {D : List Ob} (h : Rising kOb D) {t : ByteArray} {o : Ob} (hp : oGet D t = some o) : D[obIdx D t]? = some o ∧ o.1 = t ∧ hasK kOb D t = true := by
 unfold oGet at hp
 split at hp
 ·rename_i hk
  obtain ⟨x,h1,h2⟩ := bs_at h hk
  have h1' : D[obIdx D t]? = some x := h1
  rw [h1'] at hp
  obtain rfl := Option.some.inj hp
  exact ⟨h1',h2,hk⟩
 ·cases hp
theorem oGet_none {D : List Ob} (h : Rising kOb D) {t : ByteArray} (hp : oGet D t = none) : hasK kOb D t = false := by
 cases hk : hasK kOb D t with
 | false => rfl
 | true =>
  obtain ⟨x,h1,_⟩ := bs_at h hk
  have h1' : D[obIdx D t]? = some x := h1
  unfold oGet at hp
  rw [if_pos hk,h1'] at hp
  cases hp
end Go.Proofs.YtjacnfjlocajoaaDoor
