/-
  A receiver takes a message. No statement of the seat is proved here; no conditions.
-/
import Derived.Test.YtjacnfjlocajoaaDoorWr8
namespace Go.Proofs.YtjacnfjlocajoaaDoor
open Go.RowKit Go.Shelf
set_option linter.unusedVariables false
set_option linter.unusedSimpArgs false
set_option maxRecDepth 100000

theorem beg2_nil {D : List Ob} {P : List Pt} {t : ByteArray} {s : Int} : (beg2 D P t s).2.2.2.2.2.2 = [] := by
 unfold beg2 wholeV
 repeat' split
 all_goals rfl
theorem whole_nil {D : List Ob} {P : List Pt} {t : ByteArray} {b : List UInt8} : (wholeV D P t b).2.2.2.2.2.2 = [] := by
 unfold wholeV
 repeat' split
 all_goals rfl
theorem take_nil {D : List Ob} {P : List Pt} {m : Mg} : (takeV D P m).2.2.2.2.2.2 = [] := by
 unfold takeV
 split
 ·rfl
 split
 ·rfl
 split
 ·rfl
 split
 ·unfold beginV
  split
  ·exact beg2_nil
  ·split
   ·rfl
   ·exact beg2_nil
 split
 ·rfl
 split
 ·unfold dataV
  split
  ·rfl
  split
  ·split
   ·rfl
   split
   ·rfl
   ·exact whole_nil
  ·rfl
 ·rfl
theorem Take_nil {r : Rc} {m : Mg} : (TakeV r m).2.2.2.2.2.2 = [] := by
 unfold TakeV
 split
 ·rfl
 split
 ·rfl
 ·exact take_nil
def rRc (r : Rc) : RS := .agg [.own 2 r.1.length (rowF fOb r.1),.own 3 r.2.length (rowF fPt r.2)]
def rM1 (m : Mg) : RS := .agg [.v (.int .i64 m.1),.v (.str m.2.1),.v (.int .i64 m.2.2.1),.v (.int .i64 m.2.2.2.1),.own 1 0 []]
theorem rets_err {H : Heap} {q : Int} : Rets [rRc ([],[]),rM1 mg0,rInt q] (.tup [.agg [.f .nil,.f .nil],.agg ((fAn mg0).map .f),.f (.int .i64 q)]) H :=
 ⟨[.agg [.f .nil,.f .nil],.agg ((fAn mg0).map .f),.f (.int .i64 q)],rfl,⟨⟨.inl ⟨rfl,rfl,rfl⟩,.inl ⟨rfl,rfl,rfl⟩,rfl⟩,⟨rfl,rfl,rfl,rfl,.inl ⟨rfl,rfl,rfl⟩,rfl⟩,rfl,rfl⟩,List.nodup_nil⟩
theorem rets_rc {H : Heap} {q : Int} {D : List Ob} {P : List Pt} {a : Mg} {i2 i3 v2 v3 : Nat} (h2 : cellsOf v2 (H i2) = some ((rowF fOb D).map .f)) (h3 : cellsOf v3 (H i3) = some ((rowF fPt P).map .f)) (hne : i2 ≠ i3) : Rets [rRc (D,P),rM1 a,rInt q] (.tup [.agg [.sl i2 v2 2 0 D.length,.sl i3 v3 3 0 P.length],.agg ((fAn a).map .f),.f (.int .i64 q)]) H :=
 ⟨[.agg [.sl i2 v2 2 0 D.length,.sl i3 v3 3 0 P.length],.agg ((fAn a).map .f),.f (.int .i64 q)],rfl,⟨⟨.inr ⟨_,_,rfl,h2,lenO rfl⟩,.inr ⟨_,_,rfl,h3,lenP rfl⟩,rfl⟩,⟨rfl,rfl,rfl,rfl,.inl ⟨rfl,rfl,rfl⟩,rfl⟩,rfl,rfl⟩,by simp [idsC,idsS,fAn,hne]⟩
theorem own_hiq {D : List Ob} {P : List Pt} {t : ByteArray} (r : AV) (hl : List (Nat × Nat × AObj)) (h : r = .agg [.sl 100002 1 2 0 D.length,.sl 100101 1 3 0 P.length] ∧ hl = hiRc D P t 1 1 1) : r.hi = true ∧ hiObjs hl = true := by
 obtain ⟨rfl,rfl⟩ := h
 refine ⟨rfl,?_⟩
 unfold hiObjs hiRc
 simp only [List.all_cons,List.all_nil,Bool.and_true,Bool.and_eq_true]
 exact ⟨hi_fs _,hi_rowA (fun _ => rfl) P,hi_fs _⟩
theorem hl_c {H H' : Heap} {i v : Nat} {cs cs0 : List AV} {l : List (Nat × Nat × AObj)} (h : (H i).2 = some (.cells cs0)) (h2 : SlotsOk H H' [] cs0 cs) (h3 : HlOk H H' [] l) : HlOk H H' [] ((i,v,.cells cs) :: l) := ⟨by rw [if_neg (by simp)];exact ⟨cs0,h,h2⟩,h3⟩
theorem so_frYs {H H' : Heap} {nw : List Nat} {b : List UInt8} : SlotsOk H H' nw (frY b) (frY b) := so_fs2
theorem tl_frY {τ : Turn} {b : List UInt8} : AV.turnL τ (frY b) = frY b := tl_fs
theorem Take_w (r : Rc) (m : Mg) (hl : (r.1.length : Int) ≤ 9223372036854775807 ∧ (r.2.length : Int) ≤ 9223372036854775807) (hb : (∀ x ∈ r.1,(x.2.length : Int) ≤ 9223372036854775807) ∧ ∀ x ∈ r.2,(x.2.2.length : Int) ≤ 9223372036854775807) (hm : (m.2.2.2.2.length : Int) ≤ 9223372036854775807) :
  FRet Tryd.prog 9 [aRc r,aMg m] [rRc (TakeV r m).2.1,rM1 (TakeV r m).2.2,rInt (TakeV r m).1] := by
 have kc := CheckReceiver_f r hl hb
 obtain ⟨D,P⟩ := r
 clear hl hb
 unfold TakeV
 refine FCall.of_ax low_wire_Take ?_
 dsimp only [l_wire_Take]
 refine srun_sound 300 _ _ _ _ ?_
 by_cases h0 : ckRc (D,P) = 0
 case neg =>
  rw [if_pos h0]
  have d1 := dcF h0
  generalize ckRc (D,P) = q at *
  dsimp only [aRc,aMg,fMg,List.map] at kc ⊢
  replace h0 := hide h0
  repeat' (first
   | (simp -implicitDefEqProofs only [*,zr,Nat.reduceAdd,Nat.reduceSub,Nat.reduceMul,Nat.reduceLT,Nat.reduceLeDiff,Nat.reduceEqDiff,Nat.reduceBEq,reduceIte,reduceCtorEq,Int.reduceLE,Int.reduceLT,Int.reduceToNat,Int.reduceEq,Int.reduceNe])
   | ((first|apply zk0|apply zk1|apply zk2|apply zk3|apply zk4|apply zk5|apply zk6|apply zk7|apply zk8|apply zk9) <;> intro hc)
   |(refine callP0 rfl ?_)
   |(refine callD0 rfl ?_)
   |(refine cP (kc) ?_)
   |(refine cD (kc) ?_)
   |(refine cF (kc) ?_)
   |(refine cO (kc) ?_)
   | fail)
  exact rets_err
 rw [if_neg (fun h => h h0)]
 rw [h0] at kc
 have hok := ckRc_iff.1 h0
 have ko := own_hi D P m.2.1 (by have := hok.d.len;simp only at this;omega) (by have := hok.p.len;simp only at this;omega) (fun x hx => by have := hok.d.ok x hx;omega) (fun x hx => by have := hok.p.ok x hx;omega) hok.p.rise
 have kt := take_hi D P m false 1 1 1 1 [] hok (fun h => by cases h) hm
 have hrise := hide hok.p.rise
 have hok' := hide hok
 clear hok h0
 obtain ⟨mk,t,fr,sz,b⟩ := m
 dsimp only at hm ko kt hrise ⊢
 generalize hV : takeV D P (mk,t,fr,sz,b) = V at *
 dsimp only [aRc,aMg,fMg,List.map] at kc ⊢
 replace ko := hide ko
 replace kt := hide kt
 repeat' (first
  | (simp -implicitDefEqProofs only [*,zr,Nat.reduceAdd,Nat.reduceSub,Nat.reduceMul,Nat.reduceLT,Nat.reduceLeDiff,Nat.reduceEqDiff,Nat.reduceBEq,reduceIte,reduceCtorEq,Int.reduceLE,Int.reduceLT,Int.reduceToNat,Int.reduceEq,Int.reduceNe])
  | ((first|apply zk0|apply zk1|apply zk2|apply zk3|apply zk4|apply zk5|apply zk6|apply zk7|apply zk8|apply zk9) <;> intro hc)
  |(refine callP0 rfl ?_)
  |(refine callD0 rfl ?_)
  |(refine cP (kc) ?_)
  |(refine cD (kc) ?_)
  |(refine cF (kc) ?_)
  |(refine cO (kc) ?_)
  | fail)
 refine callHi rfl ko.out rfl rfl (hi_mk (by repeat (first|exact small_mk rfl | exact small_0 | refine small_upd rfl ?_)) rfl rfl rfl rfl rfl rfl) own_hiq rfl rfl ?_
 rintro r hl' ⟨rfl,rfl⟩
 dsimp only [hiRc]
 refine srun_sound 300 _ _ _ _ ?_
 repeat' (first
  | (simp -implicitDefEqProofs only [*,mixH_at,zr,Nat.reduceAdd,Nat.reduceSub,Nat.reduceMul,Nat.reduceLT,Nat.reduceLeDiff,Nat.reduceEqDiff,Nat.reduceBEq,reduceIte,reduceCtorEq,Int.reduceLE,Int.reduceLT,Int.reduceToNat,Int.reduceEq,Int.reduceNe])
  | ((first|apply zk0|apply zk1|apply zk2|apply zk3|apply zk4|apply zk5|apply zk6|apply zk7|apply zk8|apply zk9) <;> intro hc)
  |(refine callP0 rfl ?_)
  |(refine callD0 rfl ?_)
  | fail)
 refine ax_mv [(2,100001,1)] (nw := []) (n := 31) (el := [(2,.ptr 100001 1 0),(4,.ptr 4 1 0),(5,.ptr 5 1 0),(20,.agg [.f (.int .i64 mk),.f (.str t),.f (.int .i64 fr),.f (.int .i64 sz),.f (frB b)])])
  (hl := [(4,1,.cells [.f .nil,.f .nil]),(5,1,.cells [.f (.int .i64 0),.f (.str ⟨#[]⟩),.f (.int .i64 0),.f (.int .i64 0),.f .nil]),(100001,1,.cells [.sl 100002 1 2 0 D.length,.sl 100101 1 3 0 P.length]),(100002,1,.cells ((rowF fOb D).map .f)),(100101,1,.cells (rowA (aY false 1) t P)),(100102,1,.cells (frY (yOf t P)))])
  ⟨by decide,by decide,fun e he => by
   simp only [List.mem_cons,List.not_mem_nil,or_false] at he
   subst he
   exact ⟨by decide,Nat.zero_lt_one⟩⟩ ?_ ?_
 ·refine wk_i (h2 := small_mv (small_upd rfl (small_mix (small_mk rfl))) rfl) ?_ ?_
  ·refine ⟨by decide,?_,by decide,?_,by decide,?_,by decide,?_,trivial⟩
   ·show SlotOk _ _ [] (.ptr 100001 1 0) _
    rw [so_pp];exact ⟨rfl,rfl,rfl,rfl,by simp,rfl,rfl⟩
   ·show SlotOk _ _ [] (.ptr 4 1 0) _
    rw [so_pp];exact ⟨rfl,rfl,rfl,rfl,by simp,rfl,rfl⟩
   ·show SlotOk _ _ [] (.ptr 5 1 0) _
    rw [so_pp];exact ⟨rfl,rfl,rfl,rfl,by simp,rfl,rfl⟩
   ·exact so_pure (.agg [.f (.int .i64 mk),.f (.str t),.f (.int .i64 fr),.f (.int .i64 sz),.f (frB b)]) rfl
  ·refine hl_c (cs0 := [.f .nil,.f .nil]) rfl (so_fs2 (l := [.nil,.nil])) (hl_c (cs0 := [.f (.int .i64 0),.f (.str ⟨#[]⟩),.f (.int .i64 0),.f (.int .i64 0),.f .nil]) rfl (so_fs2 (l := fAn mg0)) (hl_c (cs0 := [.sl 100002 1 2 0 D.length,.sl 100101 1 3 0 P.length]) rfl ⟨by rw [so_ss];exact ⟨rfl,rfl,rfl,rfl,rfl,rfl,by simp,rfl,rfl⟩,by rw [so_ss];exact ⟨rfl,rfl,rfl,rfl,rfl,rfl,by simp,rfl,rfl⟩,rfl⟩ (hl_c (cs0 := AV.turnL _ ((rowF fOb D).map .f)) rfl (by rw [tl_fs];exact so_fs2) (hl_c (cs0 := AV.turnL _ (rowA (fun n => .sl 100102 1 1 0 n) t P)) rfl (by
    rw [rowA_turn (a' := fun n => .sl 100102 1 1 0 n) (fun n => rfl)]
    exact so_rowA (fun n => by show SlotOk _ _ [] (.sl 100102 1 1 0 n) (.sl 100102 1 1 0 n);rw [so_ss];exact ⟨rfl,rfl,rfl,rfl,rfl,rfl,by simp,rfl,rfl⟩) P) (hl_c (cs0 := AV.turnL _ (frY (yOf t P))) rfl (by rw [tl_frY];exact so_frYs) trivial)))))
 refine callHi rfl kt.out rfl rfl (hi_mk (by repeat (first|exact small_mk rfl | exact small_0 | refine small_upd rfl ?_)) rfl rfl rfl rfl rfl rfl) tq_hi hi_R rfl ?_
 rintro r hl' ⟨z',w2,w3,w4,hz',rfl,rfl,hwb⟩
 replace hz' := hide hz'
 dsimp only [hiR,List.map,List.append_nil]
 by_cases h1 : V.1 = 0
 case neg =>
  rw [if_pos h1]
  have d1 := dcF h1
  generalize V.1 = q at *
  replace h1 := hide h1
  refine srun_sound 300 _ _ _ _ ?_
  dsimp only [fAn,List.map]
  repeat' (first
   | (simp -implicitDefEqProofs only [*,mixH_at,zr,Nat.reduceAdd,Nat.reduceSub,Nat.reduceMul,Nat.reduceLT,Nat.reduceLeDiff,Nat.reduceEqDiff,Nat.reduceBEq,reduceIte,reduceCtorEq,Int.reduceLE,Int.reduceLT,Int.reduceToNat,Int.reduceEq,Int.reduceNe])
   | ((first|apply zk0|apply zk1|apply zk2|apply zk3|apply zk4|apply zk5|apply zk6|apply zk7|apply zk8|apply zk9) <;> intro hc)
   |(refine callP0 rfl ?_)
   |(refine callD0 rfl ?_)
   | fail)
  exact rets_err
 have hR2 : Rising kPt V.2.1.2 := by
  rw [← hV] at h1 ⊢
  exact (take_ok hok'.out h1).ok.p.rise
 rw [if_neg (fun h => h h1),h1]
 replace hV := hide hV
 obtain ⟨q,⟨E,Q⟩,a⟩ := V
 dsimp only at hR2 hz' h1 ⊢
 replace h1 := hide h1
 refine ax_dropHi 100102 w4 (n := 31) (el := [(4,.ptr 4 1 0),(5,.ptr 5 1 0),(2,.ptr 100001 1 0),(21,.tup [.agg ((fAn a).map .f),.f (.int .i64 0)])])
  (hl := [(4,1,.cells [.f .nil,.f .nil]),(5,1,.cells [.f (.int .i64 0),.f (.str ⟨#[]⟩),.f (.int .i64 0),.f (.int .i64 0),.f .nil]),(100001,1,.cells [.sl 100002 w2 2 0 E.length,.sl 100101 w3 3 0 Q.length]),(100002,w2,.cells ((rowF fOb E).map .f)),(100101,w3,.cells ((rowF fPt Q).map .f))]) ?_ ?_ ?_ (hsm := small_mix (small_mk rfl))
 ·refine ⟨by decide,?_,by decide,?_,by decide,?_,by decide,?_,trivial⟩
  ·show SlotOk _ _ [] (.ptr 4 1 0) _
   rw [so_pp];exact ⟨rfl,rfl,rfl,rfl,by simp,rfl,rfl⟩
  ·show SlotOk _ _ [] (.ptr 5 1 0) _
   rw [so_pp];exact ⟨rfl,rfl,rfl,rfl,by simp,rfl,rfl⟩
  ·show SlotOk _ _ [] (.ptr 100001 1 0) _
   rw [so_pp];exact ⟨rfl,rfl,rfl,rfl,by simp,rfl,rfl⟩
  ·exact so_pure (.tup [.agg ((fAn a).map .f),.f (.int .i64 0)]) rfl
 ·refine hl_c (cs0 := [.f .nil,.f .nil]) rfl (so_fs2 (l := [.nil,.nil])) (hl_c (cs0 := [.f (.int .i64 0),.f (.str ⟨#[]⟩),.f (.int .i64 0),.f (.int .i64 0),.f .nil]) rfl (so_fs2 (l := fAn mg0)) (hl_c (cs0 := [.sl 100002 w2 2 0 E.length,.sl 100101 w3 3 0 Q.length]) rfl ⟨by rw [so_ss];exact ⟨rfl,rfl,rfl,rfl,rfl,rfl,by simp,rfl,rfl⟩,by rw [so_ss];exact ⟨rfl,rfl,rfl,rfl,rfl,rfl,by simp,rfl,rfl⟩,rfl⟩ (hl_c (cs0 := (rowF fOb E).map .f) rfl so_fs2 (hl_c (cs0 := rowA (aY z' w4) t Q) rfl (so_rowFz hR2 cellsOf_self rfl hz'.out) trivial))))
 refine srun_sound 300 _ _ _ _ ?_
 dsimp only [fAn,List.map]
 repeat' (first
  | (simp -implicitDefEqProofs only [*,zr,Nat.reduceAdd,Nat.reduceSub,Nat.reduceMul,Nat.reduceLT,Nat.reduceLeDiff,Nat.reduceEqDiff,Nat.reduceBEq,reduceIte,reduceCtorEq,Int.reduceLE,Int.reduceLT,Int.reduceToNat,Int.reduceEq,Int.reduceNe])
  | ((first|apply zk0|apply zk1|apply zk2|apply zk3|apply zk4|apply zk5|apply zk6|apply zk7|apply zk8|apply zk9) <;> intro hc)
  |(refine callP0 rfl ?_)
  |(refine callD0 rfl ?_)
  | fail)
 exact rets_rc (a := a) (cellsOf_self) (cellsOf_self) (by decide)
theorem rec_fz {r : Rc} {m : Mg} {q : Int} (hm : m.2.2.2.2 = []) : RsFz [rRc r,rM1 m,rInt q] [.agg [.v (frObs r.1),.v (frPts r.2)],.agg ((fMg m).map .v),rInt q] := by
 obtain ⟨mk,t,fr,sz,b⟩ := m
 obtain rfl : b = [] := hm
 exact ⟨⟨rcF_row0 (enc := fOb) (fun _ => rfl),rcF_row0 (enc := fPt) (fun _ => rfl),trivial⟩,⟨rfl,rfl,rfl,rfl,rcF_row0 (enc := encU) (l := []) (fun _ => rfl),trivial⟩,rfl,trivial⟩
theorem Take_f (r : Rc) (m : Mg) (hl : (r.1.length : Int) ≤ 9223372036854775807 ∧ (r.2.length : Int) ≤ 9223372036854775807) (hb : (∀ x ∈ r.1,(x.2.length : Int) ≤ 9223372036854775807) ∧ ∀ x ∈ r.2,(x.2.2.length : Int) ≤ 9223372036854775807) (hm : (m.2.2.2.2.length : Int) ≤ 9223372036854775807) :
  FRet Tryd.prog 9 [aRc r,aMg m] [.agg [.v (frObs (TakeV r m).2.1.1),.v (frPts (TakeV r m).2.1.2)],.agg ((fMg (TakeV r m).2.2).map .v),rInt (TakeV r m).1] :=
 (Take_w r m hl hb hm).frz2 (rec_fz Take_nil)
end Go.Proofs.YtjacnfjlocajoaaDoor
