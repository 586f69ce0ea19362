/-
  A copy of a receiver, one of whose parts keeps its bytes as one's own. No statement of the seat is proved here; no conditions.
-/
import Derived.Test.YtjacnfjlocajoaaDoorWr2
import Derived.Test.YtjacnfjlocajoaaDoorHi2
namespace Go.Proofs.YtjacnfjlocajoaaDoor
open Go.RowKit Go.Shelf
set_option linter.unusedVariables false
set_option linter.unusedSimpArgs false
set_option maxRecDepth 100000

def fPtA (a : Nat → AV) (t : ByteArray) (p : Pt) : List AV := [.f (.str p.1),.f (.int .i64 p.2.1),if p.1 = t then a p.2.2.length else .f (frB p.2.2)]
def rowA (a : Nat → AV) (t : ByteArray) (P : List Pt) : List AV := P.flatMap (fPtA a t)
def yOf (t : ByteArray) (P : List Pt) : List UInt8 := match P.find? (fun p => decide (p.1 = t)) with
 | some p => p.2.2
 | none => []
def frY (l : List UInt8) : List AV := (rowF encU l).map .f
theorem rowA_app {a : Nat → AV} {t : ByteArray} {P Q : List Pt} : rowA a t (P ++ Q) = rowA a t P ++ rowA a t Q := by unfold rowA;rw [List.flatMap_append]
theorem rowA_cons {a : Nat → AV} {t : ByteArray} {p : Pt} {P : List Pt} : rowA a t (p :: P) = fPtA a t p ++ rowA a t P := rfl
theorem rowA_len {a : Nat → AV} {t : ByteArray} : ∀ P : List Pt,(rowA a t P).length = P.length * 3
 | [] => rfl
 | p :: P => by rw [rowA_cons,List.length_append,rowA_len P,List.length_cons];simp [fPtA];omega
theorem rowA_none {a : Nat → AV} {t : ByteArray} : ∀ {P : List Pt},hasK kPt P t = false → rowA a t P = (rowF fPt P).map .f
 | [],_ => rfl
 | p :: P,h => by
  have h1 := hasK_false.1 h
  rw [rowA_cons,rowA_none (hasK_false.2 fun x hx => h1 x (List.mem_cons_of_mem _ hx)),row_cons,List.map_append]
  congr 1
  unfold fPtA
  rw [if_neg (show ¬ p.1 = t from fun e => h1 p List.mem_cons_self e)]
  rfl
theorem rowA_turn {τ : Turn} {a a' : Nat → AV} {t : ByteArray} (h : ∀ n,(a n).turn τ = a' n) : ∀ P : List Pt,AV.turnL τ (rowA a t P) = rowA a' t P
 | [] => rfl
 | p :: P => by
  rw [AV.turnL_eq,rowA_cons,rowA_cons,List.map_append,← AV.turnL_eq,← AV.turnL_eq,rowA_turn h P]
  congr 1
  unfold fPtA
  split
  ·simp only [AV.turnL_eq,List.map_cons,List.map_nil,h];rfl
  ·simp only [AV.turnL_eq,List.map_cons,List.map_nil];rfl
theorem so_rowA {H H' : Heap} {nw : List Nat} {a a' : Nat → AV} {t : ByteArray} (h : ∀ n,SlotOk H H' nw (a n) (a' n)) : ∀ P : List Pt,SlotsOk H H' nw (rowA a t P) (rowA a' t P)
 | [] => by simp [rowA,SlotsOk]
 | p :: P => by
  rw [rowA_cons,rowA_cons]
  refine SlotsOk.app ?_ (so_rowA h P)
  unfold fPtA
  split
  ·exact ⟨.inl rfl,.inl rfl,h _,rfl⟩
  ·exact ⟨.inl rfl,.inl rfl,.inl rfl,rfl⟩
theorem so_fs2 {H H' : Heap} {nw : List Nat} {l : List FV} : SlotsOk H H' nw (l.map .f) (l.map .f) := SlotsOk.of_eq rfl
theorem rowA_at {a : Nat → AV} {t : ByteArray} {P : List Pt} {s : Nat} {x : Pt} (h : P[s]? = some x) : rowA a t (P.take (s + 1)) = rowA a t (P.take s) ++ fPtA a t x ∧ P.drop s = x :: P.drop (s + 1) ∧ (rowA a t (P.take s)).length = s * 3 := by
 have hl := (List.getElem?_eq_some_iff.1 h).1
 refine ⟨?_,?_,?_⟩
 ·rw [List.take_add_one,h,rowA_app];simp [rowA]
 ·rw [List.drop_eq_getElem_cons hl,(List.getElem?_eq_some_iff.1 h).2]
 ·rw [rowA_len,List.length_take,Nat.min_eq_left (by omega)]
theorem yOf_snoc {t : ByteArray} {P : List Pt} {s : Nat} {x : Pt} (h : P[s]? = some x) : yOf t (P.take (s + 1)) = if hasK kPt (P.take s) t = true then yOf t (P.take s) else if x.1 = t then x.2.2 else [] := by
 unfold yOf
 rw [List.take_add_one,h,List.find?_append]
 cases hf : (P.take s).find? (fun p => decide (p.1 = t)) with
 | some p =>
  have hm := List.mem_of_find?_eq_some hf
  have hk := List.find?_some hf
  rw [if_pos ((hasK_true (key := kPt)).2 ⟨p,hm,of_decide_eq_true hk⟩)]
  rfl
 | none =>
  rw [if_neg (by
   intro hk
   obtain ⟨p,hp,he⟩ := hasK_true.1 hk
   have := List.find?_eq_none.1 hf p hp
   exact this (decide_eq_true he))]
  by_cases e : x.1 = t
  ·simp [e]
  ·simp [e]
theorem yOf_none {t : ByteArray} {P : List Pt} (h : hasK kPt P t = false) : yOf t P = [] := by
 unfold yOf
 rw [List.find?_eq_none.2 fun p hp => by rw [decide_eq_true_eq];exact hasK_false.1 h p hp]
def hiRc (D : List Ob) (P : List Pt) (t : ByteArray) (v2 v3 v4 : Nat) : List (Nat × Nat × AObj) :=
 [(100002,v2,.cells ((rowF fOb D).map .f)),(100101,v3,.cells (rowA (fun n => .sl 100102 v4 1 0 n) t P)),(100102,v4,.cells (frY (yOf t P)))]
def isHi (i : Nat) : Bool := decide (i = 100001 ∨ i = 100002 ∨ i = 100101 ∨ i = 100102 ∨ i = 100103)
theorem look_hi : ∀ {hl : List (Nat × Nat × AObj)},hl.all (fun p => isHi p.1) = true → ∀ {id : Nat},isHi id = false → lookH id hl = (0,none)
 | [],_,id,_ => rfl
 | (i,v,x) :: hl,h,id,hid => by
  simp only [List.all_cons,Bool.and_eq_true] at h
  rw [lookH_cons,if_neg (fun e => by rw [← e] at h;rw [h.1] at hid;cases hid)]
  exact look_hi h.2 hid
theorem hi_mk {H : Heap} {hl : List (Nat × Nat × AObj)} (hs : Small H) (hk : hl.all (fun p => isHi p.1) = true) (h1 : H 100001 = lookH 100001 hl) (h2 : H 100002 = lookH 100002 hl) (h3 : H 100101 = lookH 100101 hl) (h4 : H 100102 = lookH 100102 hl) (h5 : H 100103 = lookH 100103 hl) : hiP H = mkH hl := by
 funext id
 rw [mkH_at]
 by_cases e : id < 100000
 ·rw [look_hi hk (by simp only [isHi,decide_eq_false_iff_not];omega)]
  exact if_pos e
 ·rw [hiP_hi (by omega)]
  by_cases e2 : id = 100001 ∨ id = 100002 ∨ id = 100101 ∨ id = 100102 ∨ id = 100103
  ·rcases e2 with rfl | rfl | rfl | rfl | rfl <;> assumption
  ·rw [look_hi hk (by simp only [isHi,decide_eq_false_iff_not];exact e2)]
   exact hs id (by omega) (by omega)
theorem small_mv {H : Heap} {l : Mv} (h : Small H) (hl : l.all (fun e => okId e.2.1) = true) : Small (mvH H l) := fun id hid hne => by
 unfold mvH
 split
 ·rename_i e he
  have h1 := List.all_eq_true.1 hl e (List.mem_of_find?_eq_some he)
  have h2 : e.2.1 = id := by simpa using List.find?_some he
  simp only [okId,decide_eq_true_eq] at h1
  omega
 ·split
  ·rw [h id hid hne]
  ·rw [h id hid hne];rfl
theorem cloneY_z (l : List UInt8) (hl : l.length ≤ 100000000) : FRet Tryd.prog 49 [.f (frB l)] [.c (.v (frB l))] :=
 (cloneY_f l hl).frz (ys := [frB l]) ⟨⟨l.map encU,rfl,List.length_map _,fun r hr => by obtain ⟨y,_,rfl⟩ := List.mem_map.1 hr;rfl,by
  rw [Nat.mul_one,List.take_of_length_le (by rw [row_len (sz := 1) (fun _ => rfl)];omega)];rfl⟩,rfl⟩
theorem ob_cells {D : List Ob} {s : Nat} {x : Ob} (hx : D[s]? = some x) : ((rowF fOb D).map AV.f)[s * 2 + 1]? = some (.f (frB x.2)) ∧ ((rowF fOb D).map AV.f).set (s * 2 + 1) (.f (frB x.2)) = (rowF fOb D).map AV.f ∧ (s * 2 + 1 + 1 ≤ (rowF fOb D).length) = True := by
 have hlt := (List.getElem?_eq_some_iff.1 hx).1
 refine ⟨row_cell (enc := fOb) (sz := 2) (j := 1) (fun _ => rfl) hx rfl,?_,?_⟩
 ·have := row_set1 (enc := fOb) (sz := 2) (j := 1) (y := x) (v := frB x.2) (fun _ => rfl) hx (by decide) rfl
  rw [splice_1] at this
  rw [this]
  have e : D.set s x = D := by
   refine List.ext_getElem? fun i => ?_
   rw [List.getElem?_set]
   split
   ·rename_i e;subst e;rw [hx]
   ·rfl
  rw [e]
 ·rw [eq_iff_iff,iff_true,row_len (sz := 2) (fun _ => rfl)];omega
theorem tl_app {τ : Turn} {l m : List AV} : AV.turnL τ (l ++ m) = AV.turnL τ l ++ AV.turnL τ m := by simp only [AV.turnL_eq,List.map_append]
theorem rowA_nil {a : Nat → AV} {t : ByteArray} : rowA a t [] = [] := rfl
theorem yOf_nil {t : ByteArray} : yOf t [] = [] := rfl
theorem frY_nil : frY [] = [] := rfl
theorem pt_cells {a : Nat → AV} {t : ByteArray} {P : List Pt} {s : Nat} {x : Pt} (hx : P[s]? = some x) : ∃ A B,rowA a t (P.take s) = A ∧ (rowF fPt (P.drop (s + 1))).map AV.f = B ∧ rowA a t (P.take s) ++ (rowF fPt (P.drop s)).map AV.f = A ++ ((fPt x).map AV.f ++ B) ∧ rowA a t (P.take (s + 1)) ++ (rowF fPt (P.drop (s + 1))).map AV.f = A ++ (fPtA a t x ++ B) ∧
  (A ++ ((fPt x).map AV.f ++ B))[s * 3 + 2]? = some (AV.f (frB x.2.2)) ∧ (∀ v,(A ++ ((fPt x).map AV.f ++ B)).set (s * 3 + 2) v = A ++ ([AV.f (.str x.1),AV.f (.int .i64 x.2.1),v] ++ B)) ∧ (s * 3 + 2 + 1 ≤ (A ++ ((fPt x).map AV.f ++ B)).length) = True := by
 obtain ⟨q1,q2,q3⟩ := rowA_at (a := a) (t := t) hx
 refine ⟨_,_,rfl,rfl,?_,?_,?_,fun v => ?_,?_⟩
 ·rw [q2,row_cons,List.map_append]
 ·rw [q1,List.append_assoc]
 ·rw [List.getElem?_append_right (by omega),q3,Nat.add_sub_cancel_left];rfl
 ·rw [List.set_append_right _ _ (by omega),q3,Nat.add_sub_cancel_left];rfl
 ·rw [eq_iff_iff,iff_true,List.length_append,q3,List.length_append];simp [fPt];omega
theorem own_hi (D : List Ob) (P : List Pt) (t : ByteArray) (hD : D.length ≤ 1000000) (hP : P.length ≤ 1000000) (hr : ∀ x ∈ D,x.2.length ≤ 100000000) (hp : ∀ x ∈ P,x.2.2.length ≤ 100000000) (hR : Rising kPt P) :
  FHi Tryd.prog 23 [aRc (D,P)] [] (fun r hl => r = .agg [.sl 100002 1 2 0 D.length,.sl 100101 1 3 0 P.length] ∧ hl = hiRc D P t 1 1 1) := by
 have hr' := hide hr
 have hp' := hide hp
 have hR' := hide hR
 clear hr hp hR
 refine FCall.mv (FCall.of_ax low_wire_own ?_)
 dsimp only [l_wire_own,aRc,frObs,frPts]
 refine srun_sound 300 _ _ _ _ ?_
 repeat' (first
  | (simp -implicitDefEqProofs only [*,addFp_wr,zr,Nat.reduceAdd,Nat.reduceSub,Nat.reduceMul,Nat.reduceLT,Nat.reduceLeDiff,Nat.reduceEqDiff,Nat.reduceBEq,reduceIte,reduceCtorEq,Int.reduceLE,Int.reduceLT,Int.reduceToNat,Int.reduceEq,Int.reduceNe])
  | ((first|apply zk0|apply zk1|apply zk2|apply zk3|apply zk4|apply zk5|apply zk6|apply zk7|apply zk8|apply zk9) <;> intro hc)
  |(refine callP0 rfl ?_)
  |(refine callD0 rfl ?_)
  |(refine cP (cloneO_f D hD) ?_)
  |(refine cD (cloneO_f D hD) ?_)
  |(refine cF (cloneO_f D hD) ?_)
  |(refine cO (cloneO_f D hD) ?_)
  |(refine cP (cloneP_f P hP) ?_)
  |(refine cD (cloneP_f P hP) ?_)
  |(refine cF (cloneP_f P hP) ?_)
  |(refine cO (cloneP_f P hP) ?_)
  | fail)
 refine ax_loopU (S := Nat) 52 [1,2,15] [1,2,10] (fun s => [(16,.f (.int .i64 s))]) (fun s => [(7,1,(rowF fOb D).map AV.f)]) (fun s => s ≤ D.length) (fun s => D.length - s) (0) [] ?_ ?_ fun s hs => ?_
 ·exact Nat.zero_le _
 ·refine wk_i ?_ ?_ <;> simp only [zw,Nat.reduceEqDiff,Nat.reduceBEq,Nat.reduceLT,Nat.reduceLeDiff,reduceIte,reduceCtorEq]
 refine srun_sound 300 _ _ _ _ ?_
 rcases Nat.lt_or_ge s D.length with hlt | hge
 ·obtain ⟨x,hx⟩ := get_some hlt
  have h4 := inc64 hlt (by omega)
  have h2 := lt_t hlt
  have hcl := cloneY_z x.2 (hr'.out x (List.mem_of_getElem? hx))
  obtain ⟨hc1,hc2,hc3⟩ := ob_cells hx
  have hX := hide hx
  clear hx
  have hone : (frB x.2).isOne = true := rfl
  generalize rowF fOb D = C at *
  generalize frB x.2 = y at *
  repeat' (first
   | (simp -implicitDefEqProofs only [*,addFp_wr,zr,Nat.reduceAdd,Nat.reduceSub,Nat.reduceMul,Nat.reduceLT,Nat.reduceLeDiff,Nat.reduceEqDiff,Nat.reduceBEq,reduceIte,reduceCtorEq,Int.reduceLE,Int.reduceLT,Int.reduceToNat,Int.reduceEq,Int.reduceNe])
   | ((first|apply zk0|apply zk1|apply zk2|apply zk3|apply zk4|apply zk5|apply zk6|apply zk7|apply zk8|apply zk9) <;> intro hc)
   |(refine callP0 rfl ?_)
   |(refine callD0 rfl ?_)
   |(refine cP (hcl) ?_)
   |(refine cD (hcl) ?_)
   |(refine cF (hcl) ?_)
   |(refine cO (hcl) ?_)
   | fail)
  refine ⟨s + 1,hlt,by omega,?_⟩
  refine wk_i ?_ ?_ <;> simp only [zw,Nat.reduceEqDiff,Nat.reduceBEq,Nat.reduceLT,Nat.reduceLeDiff,reduceIte,reduceCtorEq]
 ·obtain rfl : s = D.length := by omega
  have h2 := lt_f hge
  clear hge hs
  repeat' (first
   | (simp -implicitDefEqProofs only [*,zr,Nat.reduceAdd,Nat.reduceSub,Nat.reduceMul,Nat.reduceLT,Nat.reduceLeDiff,Nat.reduceEqDiff,Nat.reduceBEq,reduceIte,reduceCtorEq,Int.reduceLE,Int.reduceLT,Int.reduceToNat,Int.reduceEq,Int.reduceNe])
   | ((first|apply zk0|apply zk1|apply zk2|apply zk3|apply zk4|apply zk5|apply zk6|apply zk7|apply zk8|apply zk9) <;> intro hc)
   |(refine callP0 rfl ?_)
   |(refine callD0 rfl ?_)
   | fail)
  refine ax_loopW (S := Nat) 52 [1,2,34] [1,2,7] (fun s => [(35,.f (.int .i64 s))]) (fun s => [(10,1,AObj.cells (rowA (fun n => .sl 60900 1 1 0 n) t (P.take s) ++ (rowF fPt (P.drop s)).map .f)),(60900,1,AObj.cells (frY (yOf t (P.take s))))]) (fun s => s ≤ P.length) (fun s => P.length - s) (0) [60900] [] ?_ rfl ?_ fun s hs => ?_
  ·exact Nat.zero_le _
  ·refine wk_i ?_ ?_ <;> simp only [List.take_zero,List.drop_zero,rowA_nil,yOf_nil,frY_nil,List.nil_append,zw,Nat.reduceEqDiff,Nat.reduceBEq,Nat.reduceLT,Nat.reduceLeDiff,reduceIte,reduceCtorEq]
  clear h2
  simp only [sws_n,swh_n]
  refine srun_sound 300 _ _ _ _ ?_
  rcases Nat.lt_or_ge s P.length with hlt | hge
  ·obtain ⟨x,hx⟩ := get_some hlt
   have h4 := inc64 hlt (by omega)
   have h2 := lt_t hlt
   have hxl := hp'.out x (List.mem_of_getElem? hx)
   have hy := yOf_snoc (t := t) hx
   obtain ⟨A,B,hA,hB,hC,hT,hc1,hc2,hc3⟩ := pt_cells (a := fun n => .sl 60900 1 1 0 n) (t := t) hx
   rw [hC]
   generalize hCC : A ++ ((fPt x).map AV.f ++ B) = C at *
   by_cases he : x.1 = t
   ·have hno : hasK kPt (P.take s) t = false := hasK_false.2 fun y hy2 hk => by
     obtain ⟨m,hm⟩ := List.mem_iff_getElem?.1 hy2
     have hml := (List.getElem?_eq_some_iff.1 hm).1
     rw [List.length_take] at hml
     rw [List.getElem?_take,if_pos (by omega)] at hm
     have := rising_one hR'.out hm hx (by rw [hk];exact he.symm)
     omega
    rw [rowA_none hno] at hA
    rw [hno,if_neg (by decide),if_pos he] at hy
    rw [yOf_none hno,frY_nil]
    have hcl := cloneY_f x.2.2 hxl
    have hX := hide hx
    have hA' := hide hA
    have hB' := hide hB
    have hT' := hide hT
    have hy' := hide hy
    have hCC' := hide hCC
    clear hx hA hB hT hy hCC hC hxl
    have hone : (frB x.2.2).isOne = true := rfl
    repeat' (first
     | (simp -implicitDefEqProofs only [*,addFp_wr,zr,Nat.reduceAdd,Nat.reduceSub,Nat.reduceMul,Nat.reduceLT,Nat.reduceLeDiff,Nat.reduceEqDiff,Nat.reduceBEq,reduceIte,reduceCtorEq,Int.reduceLE,Int.reduceLT,Int.reduceToNat,Int.reduceEq,Int.reduceNe])
     | ((first|apply zk0|apply zk1|apply zk2|apply zk3|apply zk4|apply zk5|apply zk6|apply zk7|apply zk8|apply zk9) <;> intro hc)
     |(refine callP0 rfl ?_)
     |(refine callD0 rfl ?_)
     |(refine cP (hcl) ?_)
     |(refine cD (hcl) ?_)
     |(refine cF (hcl) ?_)
     |(refine cO (hcl) ?_)
     | fail)
    refine ⟨s + 1,[(47,60900)],hlt,by omega,rfl,?_⟩
    rw [hT'.out,hy'.out,← hA'.out,← hB'.out]
    have e3 : fPtA (fun n => .sl 60900 1 1 0 n) t x = [.f (.str t),.f (.int .i64 x.2.1),.sl 60900 1 1 0 x.2.2.length] := by unfold fPtA;rw [if_pos he,he]
    rw [e3]
    refine wk_i ?_ ?_ <;> simp only [tl_app,tl_fs,zw,Nat.reduceEqDiff,Nat.reduceBEq,Nat.reduceLT,Nat.reduceLeDiff,reduceIte,reduceCtorEq]
    exact ⟨SlotsOk.app so_fs2 ⟨.inl rfl,.inl rfl,⟨rfl,rfl,rfl,rfl,rfl,rfl,by simp,rfl,rfl⟩,so_fs2⟩,so_fs2⟩
   ·have e3 : fPtA (fun n => .sl 60900 1 1 0 n) t x = (fPt x).map AV.f := by unfold fPtA;rw [if_neg he];rfl
    rw [e3,hCC] at hT
    have hy2 : yOf t (P.take (s + 1)) = yOf t (P.take s) := by
     rw [hy]
     cases hk : hasK kPt (P.take s) t with
     | true => rfl
     | false => rw [if_neg (by decide),if_neg he,yOf_none hk]
    have hs2 : C.set (s * 3 + 2) (.f (frB x.2.2)) = C := by rw [hc2,← hCC];rfl
    have hcl := cloneY_z x.2.2 hxl
    have hone : (frB x.2.2).isOne = true := rfl
    generalize yOf t (P.take s) = Y at *
    have hX := hide hx
    have hA' := hide hA
    have hB' := hide hB
    have hT' := hide hT
    have hy' := hide hy2
    have hCC' := hide hCC
    clear hx hA hB hT hy hy2 hCC hC hxl hc2 e3
    generalize frB x.2.2 = fb at *
    repeat' (first
     | (simp -implicitDefEqProofs only [*,addFp_wr,zr,Nat.reduceAdd,Nat.reduceSub,Nat.reduceMul,Nat.reduceLT,Nat.reduceLeDiff,Nat.reduceEqDiff,Nat.reduceBEq,reduceIte,reduceCtorEq,Int.reduceLE,Int.reduceLT,Int.reduceToNat,Int.reduceEq,Int.reduceNe])
     | ((first|apply zk0|apply zk1|apply zk2|apply zk3|apply zk4|apply zk5|apply zk6|apply zk7|apply zk8|apply zk9) <;> intro hc)
     |(refine callP0 rfl ?_)
     |(refine callD0 rfl ?_)
     |(refine cP (hcl) ?_)
     |(refine cD (hcl) ?_)
     |(refine cF (hcl) ?_)
     |(refine cO (hcl) ?_)
     | fail)
    refine ⟨s + 1,[],hlt,by omega,rfl,?_⟩
    rw [hT'.out,hy'.out]
    refine wk_i ?_ ?_ <;> simp only [sws_n,swh_n,zw,Nat.reduceEqDiff,Nat.reduceBEq,Nat.reduceLT,Nat.reduceLeDiff,reduceIte,reduceCtorEq]
    refine ⟨?_,so_fs2⟩
    rw [← hCC'.out,← hA'.out,← hB'.out]
    exact SlotsOk.app (so_rowA (fun n => by rw [so_ss];exact ⟨rfl,rfl,rfl,rfl,rfl,rfl,by simp,rfl,rfl⟩) _) (SlotsOk.app so_fs2 so_fs2)
  ·obtain rfl : s = P.length := by omega
   have h2 := lt_f hge
   clear hge hs
   rw [List.take_length,List.drop_length]
   repeat' (first
    | (simp -implicitDefEqProofs only [*,zr,Nat.reduceAdd,Nat.reduceSub,Nat.reduceMul,Nat.reduceLT,Nat.reduceLeDiff,Nat.reduceEqDiff,Nat.reduceBEq,reduceIte,reduceCtorEq,Int.reduceLE,Int.reduceLT,Int.reduceToNat,Int.reduceEq,Int.reduceNe])
    | ((first|apply zk0|apply zk1|apply zk2|apply zk3|apply zk4|apply zk5|apply zk6|apply zk7|apply zk8|apply zk9) <;> intro hc)
    |(refine callP0 rfl ?_)
    |(refine callD0 rfl ?_)
    | fail)
   refine ⟨[(7,100002,1),(10,100101,1),(60900,100102,1)],?_,?_⟩
   ·refine ⟨by decide,by decide,fun e he => ?_⟩
    simp only [List.mem_cons,List.not_mem_nil,or_false] at he
    rcases he with rfl | rfl | rfl
    ·exact ⟨by decide,Nat.zero_lt_one⟩
    ·exact ⟨by decide,Nat.zero_lt_one⟩
    ·exact ⟨by decide,Nat.zero_lt_one⟩
   ·refine ⟨hiRc D P t 1 1 1,⟨rfl,rfl⟩,hi_mk (small_mv (small_upd rfl (small_mk rfl)) rfl) rfl rfl ?_ ?_ ?_ rfl⟩
    ·show (1,some (AObj.cells (AV.turnL _ ((rowF fOb D).map AV.f)))) = _
     rw [tl_fs];rfl
    ·show (1,some (AObj.cells (AV.turnL _ (rowA (fun n => AV.sl 60900 1 1 0 n) t P ++ (rowF fPt []).map AV.f)))) = _
     rw [row_nil,List.map_nil,List.append_nil,rowA_turn (a' := fun n => .sl 100102 1 1 0 n) (fun n => rfl)];rfl
    ·show (1,some (AObj.cells (AV.turnL _ (frY (yOf t P))))) = _
     unfold frY
     rw [tl_fs];rfl
end Go.Proofs.YtjacnfjlocajoaaDoor
