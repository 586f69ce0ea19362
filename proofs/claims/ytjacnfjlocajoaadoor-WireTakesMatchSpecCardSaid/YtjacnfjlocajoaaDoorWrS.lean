/-
  Receivers and messages held against one another; what is there of a content. No statement of the seat is proved here; no conditions.
-/
import Derived.Test.YtjacnfjlocajoaaDoorWr9
namespace Go.Proofs.YtjacnfjlocajoaaDoor
open Go.RowKit Go.Shelf
set_option linter.unusedVariables false
set_option linter.unusedSimpArgs false
set_option maxRecDepth 100000

theorem sameMg_f (m : Mg) (hl : (m.2.2.2.2.length : Int) ≤ 9223372036854775807) : FRet Tryd.prog 12 [aMg m,aMg m] [.c (.v (.bool true))] := by
 have k := equalY_f m.2.2.2.2 m.2.2.2.2 hl
 rw [decide_eq_true rfl] at k
 obtain ⟨mk,t,fr,sz,b⟩ := m
 dsimp only at k
 refine FCall.of_ax low_ref8_SameMessage ?_
 dsimp only [l_ref8_SameMessage,aMg,fMg,List.map]
 refine srun_sound 300 _ _ _ _ ?_
 repeat' (first
  | (simp -implicitDefEqProofs only [*,zr,Nat.reduceAdd,Nat.reduceSub,Nat.reduceMul,Nat.reduceLT,Nat.reduceLeDiff,Nat.reduceEqDiff,Nat.reduceBEq,reduceIte,reduceCtorEq,Int.reduceLE,Int.reduceLT,Int.reduceToNat,Int.reduceEq,Int.reduceNe])
  | ((first|apply zk0|apply zk1|apply zk2|apply zk3|apply zk4|apply zk5|apply zk6|apply zk7|apply zk8|apply zk9) <;> intro hc)
  |(refine callP0 rfl ?_)
  |(refine callD0 rfl ?_)
  |(refine cP (k) ?_)
  |(refine cD (k) ?_)
  |(refine cF (k) ?_)
  | fail)
 exact ret_v
theorem sameRc_f (r : Rc) (hl : (r.1.length : Int) ≤ 9223372036854775807 ∧ (r.2.length : Int) ≤ 9223372036854775807) (hb : (∀ x ∈ r.1,(x.2.length : Int) ≤ 9223372036854775807) ∧ ∀ x ∈ r.2,(x.2.2.length : Int) ≤ 9223372036854775807) : FRet Tryd.prog 11 [aRc r,aRc r] [.c (.v (.bool true))] := by
 obtain ⟨D,P⟩ := r
 obtain ⟨hl1,hl2⟩ := hl
 obtain ⟨hb1,hb2⟩ := hb
 dsimp only at hl1 hl2 hb1 hb2
 replace hb1 := hide hb1
 replace hb2 := hide hb2
 refine FCall.of_ax low_ref8_SameReceiver ?_
 dsimp only [l_ref8_SameReceiver,aRc,frObs,frPts]
 refine srun_sound 300 _ _ _ _ ?_
 repeat' (first
  | (simp -implicitDefEqProofs only [*,frB,zr,Nat.reduceAdd,Nat.reduceSub,Nat.reduceMul,Nat.reduceLT,Nat.reduceLeDiff,Nat.reduceEqDiff,Nat.reduceBEq,reduceIte,reduceCtorEq,Int.reduceLE,Int.reduceLT,Int.reduceToNat,Int.reduceEq,Int.reduceNe])
  | ((first|apply zk0|apply zk1|apply zk2|apply zk3|apply zk4|apply zk5|apply zk6|apply zk7|apply zk8|apply zk9) <;> intro hc)
  |(refine callP0 rfl ?_)
  |(refine callD0 rfl ?_)
  | fail)
 refine ax_loopU (S := Nat) 110 [2,3,25] [2,3] (fun s => [(26,.f (.int .i64 s))]) (fun s => []) (fun s => s ≤ D.length) (fun s => D.length - s) (0) [] ?_ ?_ fun s hs => ?_
 ·exact Nat.zero_le _
 ·refine wk_i ?_ ?_ <;> simp only [zw,Nat.reduceEqDiff,Nat.reduceBEq,Nat.reduceLT,Nat.reduceLeDiff,reduceIte,reduceCtorEq]
 refine srun_sound 300 _ _ _ _ ?_
 rcases Nat.lt_or_ge s D.length with hlt | hge
 ·obtain ⟨x,hx⟩ := get_some hlt
  have h4 := inc64 hlt hl1
  have h2 := lt_t hlt
  have ke := equalY_f x.2 x.2 (hb1.out x (List.mem_of_getElem? hx))
  rw [decide_eq_true rfl] at ke
  obtain ⟨xd,xb⟩ := x
  repeat' (first
   | (simp -implicitDefEqProofs only [*,List.getElem?_map,Option.map_some,fOb,zr,Nat.reduceAdd,Nat.reduceSub,Nat.reduceMul,Nat.reduceLT,Nat.reduceLeDiff,Nat.reduceEqDiff,Nat.reduceBEq,reduceIte,reduceCtorEq,Int.reduceLE,Int.reduceLT,Int.reduceToNat,Int.reduceEq,Int.reduceNe])
   | ((first|apply zk0|apply zk1|apply zk2|apply zk3|apply zk4|apply zk5|apply zk6|apply zk7|apply zk8|apply zk9) <;> intro hc)
   |(refine callP0 rfl ?_)
   |(refine callD0 rfl ?_)
   |(refine cP (ke) ?_)
   |(refine cD (ke) ?_)
   |(refine cF (ke) ?_)
   | fail)
  refine ⟨s + 1,hlt,by omega,?_⟩
  refine wk_i ?_ ?_ <;> simp only [zw,Nat.reduceEqDiff,Nat.reduceBEq,Nat.reduceLT,Nat.reduceLeDiff,reduceIte,reduceCtorEq]
 ·obtain rfl : s = D.length := by omega
  have h2 := lt_f hge
  clear hge hs
  repeat' (first
   | (simp -implicitDefEqProofs only [*,zr,Nat.reduceAdd,Nat.reduceSub,Nat.reduceMul,Nat.reduceLT,Nat.reduceLeDiff,Nat.reduceEqDiff,Nat.reduceBEq,reduceIte,reduceCtorEq,Int.reduceLE,Int.reduceLT,Int.reduceToNat,Int.reduceEq,Int.reduceNe])
   | ((first|apply zk0|apply zk1|apply zk2|apply zk3|apply zk4|apply zk5|apply zk6|apply zk7|apply zk8|apply zk9) <;> intro hc)
   |(refine callP0 rfl ?_)
   |(refine callD0 rfl ?_)
   | fail)
  refine ax_loopU (S := Nat) 110 [2,3,61] [2,3] (fun s => [(62,.f (.int .i64 s))]) (fun s => []) (fun s => s ≤ P.length) (fun s => P.length - s) (0) [] ?_ ?_ fun s hs => ?_
  ·exact Nat.zero_le _
  ·refine wk_i ?_ ?_ <;> simp only [zw,Nat.reduceEqDiff,Nat.reduceBEq,Nat.reduceLT,Nat.reduceLeDiff,reduceIte,reduceCtorEq]
  refine srun_sound 300 _ _ _ _ ?_
  clear h2
  rcases Nat.lt_or_ge s P.length with hlt | hge
  ·obtain ⟨x,hx⟩ := get_some hlt
   have h4 := inc64 hlt hl2
   have h2 := lt_t hlt
   have ke := equalY_f x.2.2 x.2.2 (hb2.out x (List.mem_of_getElem? hx))
   rw [decide_eq_true rfl] at ke
   obtain ⟨xd,xs,xb⟩ := x
   repeat' (first
    | (simp -implicitDefEqProofs only [*,List.getElem?_map,Option.map_some,fPt,zr,Nat.reduceAdd,Nat.reduceSub,Nat.reduceMul,Nat.reduceLT,Nat.reduceLeDiff,Nat.reduceEqDiff,Nat.reduceBEq,reduceIte,reduceCtorEq,Int.reduceLE,Int.reduceLT,Int.reduceToNat,Int.reduceEq,Int.reduceNe])
    | ((first|apply zk0|apply zk1|apply zk2|apply zk3|apply zk4|apply zk5|apply zk6|apply zk7|apply zk8|apply zk9) <;> intro hc)
    |(refine callP0 rfl ?_)
    |(refine callD0 rfl ?_)
    |(refine cP (ke) ?_)
    |(refine cD (ke) ?_)
    |(refine cF (ke) ?_)
    | fail)
   refine ⟨s + 1,hlt,by omega,?_⟩
   refine wk_i ?_ ?_ <;> simp only [zw,Nat.reduceEqDiff,Nat.reduceBEq,Nat.reduceLT,Nat.reduceLeDiff,reduceIte,reduceCtorEq]
  ·obtain rfl : s = P.length := by omega
   have h2 := lt_f hge
   clear hge hs
   repeat' (first
    | (simp -implicitDefEqProofs only [*,zr,Nat.reduceAdd,Nat.reduceSub,Nat.reduceMul,Nat.reduceLT,Nat.reduceLeDiff,Nat.reduceEqDiff,Nat.reduceBEq,reduceIte,reduceCtorEq,Int.reduceLE,Int.reduceLT,Int.reduceToNat,Int.reduceEq,Int.reduceNe])
    | ((first|apply zk0|apply zk1|apply zk2|apply zk3|apply zk4|apply zk5|apply zk6|apply zk7|apply zk8|apply zk9) <;> intro hc)
    |(refine callP0 rfl ?_)
    |(refine callD0 rfl ?_)
    | fail)
   exact ret_v
theorem ret_vvv {x y z : FV} {H : Heap} : Rets [.c (.v x),.c (.v y),.c (.v z)] (.tup [.f x,.f y,.f z]) H := ⟨[_,_,_],rfl,⟨rfl,rfl,rfl,rfl⟩,List.nodup_nil⟩
def oGet (D : List Ob) (t : ByteArray) : Option Ob := if hasK kOb D t = true then D[obIdx D t]? else none
theorem oGet_some {D : List Ob} (h : Rising kOb D) {t : ByteArray} {o : Ob} (hp : oGet D t = some o) : D[obIdx D t]? = some o ∧ o.1 = t ∧ hasK kOb D t = true := by
 unfold oGet at hp
 split at hp
 ·rename_i hk
  obtain ⟨x,h1,h2⟩ := bs_at h hk
  have h1' : D[obIdx D t]? = some x := h1
  rw [h1'] at hp
  obtain rfl := Option.some.inj hp
  exact ⟨h1',h2,hk⟩
 ·cases hp
theorem oGet_none {D : List Ob} (h : Rising kOb D) {t : ByteArray} (hp : oGet D t = none) : hasK kOb D t = false := by
 cases hk : hasK kOb D t with
 | false => rfl
 | true =>
  obtain ⟨x,h1,_⟩ := bs_at h hk
  have h1' : D[obIdx D t]? = some x := h1
  unfold oGet at hp
  rw [if_pos hk,h1'] at hp
  cases hp
def OffsetV (r : Rc) (t : ByteArray) : Nat × Bool × Int :=
 if ckRc r ≠ 0 then (0,false,ckRc r) else if isDig t = false then (0,false,3) else match oGet r.1 t with
  | some o => (o.2.length,true,0)
  | none => match pGet r.2 t with
   | some p => (p.2.2.length,true,0)
   | none => (0,false,0)
theorem Offset_f (r : Rc) (t : ByteArray) (hl : (r.1.length : Int) ≤ 9223372036854775807 ∧ (r.2.length : Int) ≤ 9223372036854775807) (hb : (∀ x ∈ r.1,(x.2.length : Int) ≤ 9223372036854775807) ∧ ∀ x ∈ r.2,(x.2.2.length : Int) ≤ 9223372036854775807) :
  FRet Tryd.prog 13 [aRc r,.f (.str t)] [.c (.v (.int .i64 (OffsetV r t).1)),.c (.v (.bool (OffsetV r t).2.1)),.c (.v (.int .i64 (OffsetV r t).2.2))] := by
 have kc := CheckReceiver_f r hl hb
 have kI := isDigest_f t
 obtain ⟨D,P⟩ := r
 clear hl hb
 unfold OffsetV
 refine FCall.of_ax low_wire_Offset ?_
 dsimp only [l_wire_Offset]
 refine srun_sound 300 _ _ _ _ ?_
 by_cases h0 : ckRc (D,P) = 0
 case neg =>
  rw [if_pos h0]
  have d1 := dcF h0
  generalize ckRc (D,P) = q at *
  dsimp only [aRc] at kc ⊢
  replace h0 := hide h0
  repeat' (first
   | (simp -implicitDefEqProofs only [*,zr,Nat.reduceAdd,Nat.reduceSub,Nat.reduceMul,Nat.reduceLT,Nat.reduceLeDiff,Nat.reduceEqDiff,Nat.reduceBEq,reduceIte,reduceCtorEq,Int.reduceLE,Int.reduceLT,Int.reduceToNat,Int.reduceEq,Int.reduceNe])
   | ((first|apply zk0|apply zk1|apply zk2|apply zk3|apply zk4|apply zk5|apply zk6|apply zk7|apply zk8|apply zk9) <;> intro hc)
   |(refine callP0 rfl ?_)
   |(refine callD0 rfl ?_)
   |(refine cP (kc) ?_)
   |(refine cD (kc) ?_)
   |(refine cF (kc) ?_)
   | fail)
  exact ret_vvv
 rw [if_neg (fun h => h h0)]
 rw [h0] at kc
 have hok := ckRc_iff.1 h0
 have hD := hok.d.len
 have hrD := hok.d.rise
 have hP := hok.p.len
 have hrP := hok.p.rise
 simp only at hD hrD hP hrP
 have kd := doneAt_f D (.f (frPts P)) rfl t (by omega) hrD
 have kp := partAt_f P (.f (frObs D)) rfl t (by omega) hrP
 clear hok h0
 cases hi : isDig t with
 | false =>
  rw [hi] at kI
  dsimp only [aRc] at kc ⊢
  clear kd kp
  repeat' (first
   | (simp -implicitDefEqProofs only [*,zr,Nat.reduceAdd,Nat.reduceSub,Nat.reduceMul,Nat.reduceLT,Nat.reduceLeDiff,Nat.reduceEqDiff,Nat.reduceBEq,reduceIte,reduceCtorEq,Int.reduceLE,Int.reduceLT,Int.reduceToNat,Int.reduceEq,Int.reduceNe])
   | ((first|apply zk0|apply zk1|apply zk2|apply zk3|apply zk4|apply zk5|apply zk6|apply zk7|apply zk8|apply zk9) <;> intro hc)
   |(refine callP0 rfl ?_)
   |(refine callD0 rfl ?_)
   |(refine cP (kc) ?_)
   |(refine cD (kc) ?_)
   |(refine cF (kc) ?_)
   |(refine cP (kI) ?_)
   |(refine cD (kI) ?_)
   |(refine cF (kI) ?_)
   | fail)
  exact ret_vvv
 | true =>
  rw [hi] at kI
  rw [if_neg (by decide)]
  cases ho : oGet D t with
  | some o =>
   obtain ⟨g1,g2,g3⟩ := oGet_some hrD ho
   rw [g3] at kd
   generalize obIdx D t = i at *
   obtain ⟨od,ob⟩ := o
   dsimp only [aRc,frObs] at kc kd ⊢
   replace hrD := hide hrD
   replace hrP := hide hrP
   replace ho := hide ho
   repeat' (first
    | (simp -implicitDefEqProofs only [*,List.getElem?_map,Option.map_some,fOb,frB,List.length_map,zr,Nat.reduceAdd,Nat.reduceSub,Nat.reduceMul,Nat.reduceLT,Nat.reduceLeDiff,Nat.reduceEqDiff,Nat.reduceBEq,reduceIte,reduceCtorEq,Int.reduceLE,Int.reduceLT,Int.reduceToNat,Int.reduceEq,Int.reduceNe])
    | ((first|apply zk0|apply zk1|apply zk2|apply zk3|apply zk4|apply zk5|apply zk6|apply zk7|apply zk8|apply zk9) <;> intro hc)
    |(refine callP0 rfl ?_)
    |(refine callD0 rfl ?_)
    |(refine cP (kc) ?_)
    |(refine cD (kc) ?_)
    |(refine cF (kc) ?_)
    |(refine cP (kI) ?_)
    |(refine cD (kI) ?_)
    |(refine cF (kI) ?_)
    |(refine cP (kd) ?_)
    |(refine cD (kd) ?_)
    |(refine cF (kd) ?_)
    | fail)
   exact ret_vvv
  | none =>
   rw [oGet_none hrD ho] at kd
   cases hp : pGet P t with
   | some p =>
    obtain ⟨g1,g2,g3⟩ := pGet_some hrP hp
    rw [g3] at kp
    generalize ptIdx P t = i at *
    obtain ⟨pd,ps,pb⟩ := p
    dsimp only [aRc,frPts] at kc kd kp ⊢
    replace hrD := hide hrD
    replace hrP := hide hrP
    replace ho := hide ho
    replace hp := hide hp
    repeat' (first
     | (simp -implicitDefEqProofs only [*,List.getElem?_map,Option.map_some,fPt,frB,List.length_map,zr,Nat.reduceAdd,Nat.reduceSub,Nat.reduceMul,Nat.reduceLT,Nat.reduceLeDiff,Nat.reduceEqDiff,Nat.reduceBEq,reduceIte,reduceCtorEq,Int.reduceLE,Int.reduceLT,Int.reduceToNat,Int.reduceEq,Int.reduceNe])
     | ((first|apply zk0|apply zk1|apply zk2|apply zk3|apply zk4|apply zk5|apply zk6|apply zk7|apply zk8|apply zk9) <;> intro hc)
     |(refine callP0 rfl ?_)
     |(refine callD0 rfl ?_)
     |(refine cP (kc) ?_)
     |(refine cD (kc) ?_)
     |(refine cF (kc) ?_)
     |(refine cP (kI) ?_)
     |(refine cD (kI) ?_)
     |(refine cF (kI) ?_)
     |(refine cP (kd) ?_)
     |(refine cD (kd) ?_)
     |(refine cF (kd) ?_)
     |(refine cP (kp) ?_)
     |(refine cD (kp) ?_)
     |(refine cF (kp) ?_)
     | fail)
    exact ret_vvv
   | none =>
    rw [pGet_none hrP hp] at kp
    dsimp only [aRc] at kc ⊢
    replace hrD := hide hrD
    replace hrP := hide hrP
    replace ho := hide ho
    replace hp := hide hp
    repeat' (first
     | (simp -implicitDefEqProofs only [*,zr,Nat.reduceAdd,Nat.reduceSub,Nat.reduceMul,Nat.reduceLT,Nat.reduceLeDiff,Nat.reduceEqDiff,Nat.reduceBEq,reduceIte,reduceCtorEq,Int.reduceLE,Int.reduceLT,Int.reduceToNat,Int.reduceEq,Int.reduceNe])
     | ((first|apply zk0|apply zk1|apply zk2|apply zk3|apply zk4|apply zk5|apply zk6|apply zk7|apply zk8|apply zk9) <;> intro hc)
     |(refine callP0 rfl ?_)
     |(refine callD0 rfl ?_)
     |(refine cP (kc) ?_)
     |(refine cD (kc) ?_)
     |(refine cF (kc) ?_)
     |(refine cP (kI) ?_)
     |(refine cD (kI) ?_)
     |(refine cF (kI) ?_)
     |(refine cP (kd) ?_)
     |(refine cD (kd) ?_)
     |(refine cF (kd) ?_)
     |(refine cP (kp) ?_)
     |(refine cD (kp) ?_)
     |(refine cF (kp) ?_)
     | fail)
    exact ret_vvv
end Go.Proofs.YtjacnfjlocajoaaDoor
