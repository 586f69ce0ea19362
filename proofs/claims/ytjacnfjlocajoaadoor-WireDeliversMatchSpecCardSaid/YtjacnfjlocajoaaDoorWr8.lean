/-
  A receiver of one's own takes a message. No statement of the seat is proved here; no conditions.
-/
import Derived.Test.YtjacnfjlocajoaaDoorWr7
namespace Go.Proofs.YtjacnfjlocajoaaDoor
open Go.RowKit Go.Shelf
set_option linter.unusedVariables false
set_option linter.unusedSimpArgs false
set_option maxRecDepth 100000

theorem hi_fs (l : List FV) : (l.map AV.f).all AV.hi = true := List.all_eq_true.2 fun a ha => by obtain ⟨x,_,rfl⟩ := List.mem_map.1 ha;rfl
theorem hi_rowA {a : Nat → AV} {t : ByteArray} (h : ∀ n,(a n).hi = true) (P : List Pt) : (rowA a t P).all AV.hi = true := List.all_eq_true.2 fun x hx => by
 obtain ⟨p,_,hp⟩ := List.mem_flatMap.1 hx
 unfold fPtA at hp
 simp only [List.mem_cons,List.not_mem_nil,or_false] at hp
 rcases hp with rfl | rfl | rfl
 ·rfl
 ·rfl
 ·split
  ·exact h _
  ·rfl
theorem hi_aY {z : Bool} {v : Nat} (n : Nat) : (aY z v n).hi = true := by cases z <;> rfl
theorem hi_R {D : List Ob} {P : List Pt} {t : ByteArray} {z : Bool} {v1 v2 v3 v4 : Nat} {zs : List FV} : hiObjs (hiR D P t z v1 v2 v3 v4 zs) = true := by
 unfold hiObjs hiR
 simp only [List.all_cons,List.all_nil,Bool.and_true,Bool.and_eq_true]
 refine ⟨?_,hi_fs _,hi_rowA hi_aY P,hi_fs _⟩
 rw [List.all_append,hi_fs];rfl
theorem tq_hi {t : ByteArray} {v1 b2 b3 b4 : Nat} {zs : List FV} {V : TR} (r : AV) (hl : List (Nat × Nat × AObj)) (h : TQ t v1 zs b2 b3 b4 V r hl) : r.hi = true ∧ hiObjs hl = true := by
 obtain ⟨z,w2,w3,w4,_,rfl,rfl,_⟩ := h
 exact ⟨rfl,hi_R⟩
theorem mixH_at {A B : Heap} {id : Nat} : mixH A B id = if id < 100000 then B id else A id := rfl
theorem small_mix {A B : Heap} (h : Small A) : Small (mixH A B) := fun id h1 h2 => (if_neg (by omega)).trans (h id h1 h2)
theorem fz_done {H : Heap} {v2 : Nat} {x : AV} {D : List Ob} (hc : cellsOf v2 (H 100002) = some ((rowF fOb D).map .f)) : FzA H (.agg [.sl 100002 v2 2 0 D.length,x]) (.agg [.f (frObs D),.any]) :=
 .inr ⟨_,_,rfl,rfl,.inl (.inl (so_row0 (enc := fOb) (sz := 2) (l := D) (fun _ => rfl) rfl hc rfl)),.inl (.inl (by cases x <;> simp only [SlotOk])),trivial⟩
theorem ckMg_facts {m : Mg} {many : Int} (h : ckMg m many = 0) : (0 ≤ m.2.2.1 ∧ m.2.2.1 ≤ 2000000) ∧ (0 ≤ m.2.2.2.1 ∧ m.2.2.2.1 ≤ 2000000) ∧ many ≤ 65536 ∧ (m.1 = 2 → 0 < many) := by
 unfold ckMg at h
 split at h
 ·cases h
 split at h
 ·cases h
 split at h
 ·cases h
 rename_i h3
 split at h
 ·cases h
 split at h
 ·cases h
 split at h
 ·cases h
 split at h
 ·cases h
 rename_i h7
 simp only [Bool.not_eq_false,Bool.and_eq_true,inRg,decide_eq_true_eq] at h3
 refine ⟨by omega,by omega,by omega,fun e => ?_⟩
 rw [e] at h7
 simpa using h7
set_option maxHeartbeats 8000000 in
theorem take_hi (D : List Ob) (P : List Pt) (m : Mg) (z : Bool) (v1 v2 v3 v4 : Nat) (zs : List FV) (hok : ROk (D,P)) (hz : z = true → yOf m.2.1 P = []) (hbm : (m.2.2.2.2.length : Int) ≤ 9223372036854775807) :
  FHi Tryd.prog 24 [.ptr 100001 v1 0,aMg m] (hiR D P m.2.1 z v1 v2 v3 v4 zs) (TQ m.2.1 v1 zs (v2 + 3) (v3 + 3) (v4 + 3) (takeV D P m)) := by
 have hD := hok.d.len
 have hrD := hok.d.rise
 have hP := hok.p.len
 have hrP := hok.p.rise
 simp only at hD hrD hP hrP
 have kc := checkMessage_f m m.2.2.2.2.length
 have kd := doneAt_f D .any rfl m.2.1 (by omega) hrD
 have kp := partAt_f P .any rfl m.2.1 (by omega) hrP
 have kb := begin_hi D P m z v1 v2 v3 v4 zs hD hrD (by omega) hrP hz
 obtain ⟨mk,t,fr,sz,b⟩ := m
 dsimp only at hz hbm kc kd kp kb ⊢
 unfold takeV
 dsimp only
 refine FHi.of (FCall.of_ax low_wire_take ?_)
 dsimp only [l_wire_take,aMg,fMg,hiR,List.map]
 refine srun_sound 300 _ _ _ _ ?_
 by_cases h1 : ckMg (mk,t,fr,sz,b) b.length = 0
 case neg =>
  rw [if_pos h1]
  have d1 := dcF h1
  generalize ckMg (mk,t,fr,sz,b) b.length = q at *
  replace kc := hide kc
  replace h1 := hide h1
  clear kd kp kb
  replace hz := hide hz
  repeat' (first
   | (simp -implicitDefEqProofs only [*,List.cons_append,List.nil_append,frB,List.length_map,zr,Nat.reduceAdd,Nat.reduceSub,Nat.reduceMul,Nat.reduceLT,Nat.reduceLeDiff,Nat.reduceEqDiff,Nat.reduceBEq,reduceIte,reduceCtorEq,Int.reduceLE,Int.reduceLT,Int.reduceToNat,Int.reduceEq,Int.reduceNe])
   | ((first|apply zk0|apply zk1|apply zk2|apply zk3|apply zk4|apply zk5|apply zk6|apply zk7|apply zk8|apply zk9) <;> intro hc)
   |(refine callP0 rfl ?_)
   |(refine callD0 rfl ?_)
   |(refine cP (kc.out) ?_)
   |(refine cD (kc.out) ?_)
   |(refine cF (kc.out) ?_)
   | fail)
  exact .inl (tq_same (D := D) (P := P) (z := z) (v2 := v2) (v3 := v3) (v4 := v4) rfl hz.out rfl (by repeat (first|exact small_mk rfl | refine small_upd rfl ?_)) rfl rfl rfl rfl rfl)
 rw [if_neg (fun h => h h1)]
 obtain ⟨mf,ms,mb,mk2⟩ := ckMg_facts h1
 dsimp only at mf ms mb mk2
 rw [h1] at kc
 have hck := hide h1
 clear h1
 replace kc := hide kc
 by_cases h2 : mk ≠ 1 ∧ mk ≠ 2 ∧ mk ≠ 6
 ·rw [if_pos h2]
  have e1 : decide (mk = 1) = false := dcF h2.1
  have e2 : decide (mk = 2) = false := dcF h2.2.1
  have e3 : decide (mk = 6) = false := dcF h2.2.2
  clear kd kp kb
  replace hz := hide hz
  replace h2 := hide h2
  replace mk2 := hide mk2
  repeat' (first
   | (simp -implicitDefEqProofs only [*,List.cons_append,List.nil_append,frB,List.length_map,zr,Nat.reduceAdd,Nat.reduceSub,Nat.reduceMul,Nat.reduceLT,Nat.reduceLeDiff,Nat.reduceEqDiff,Nat.reduceBEq,reduceIte,reduceCtorEq,Int.reduceLE,Int.reduceLT,Int.reduceToNat,Int.reduceEq,Int.reduceNe])
   | ((first|apply zk0|apply zk1|apply zk2|apply zk3|apply zk4|apply zk5|apply zk6|apply zk7|apply zk8|apply zk9) <;> intro hc)
   |(refine callP0 rfl ?_)
   |(refine callD0 rfl ?_)
   |(refine cP (kc.out) ?_)
   |(refine cD (kc.out) ?_)
   |(refine cF (kc.out) ?_)
   | fail)
  exact .inl (tq_same (D := D) (P := P) (z := z) (v2 := v2) (v3 := v3) (v4 := v4) rfl hz.out rfl (by repeat (first|exact small_mk rfl | refine small_upd rfl ?_)) rfl rfl rfl rfl rfl)
 rw [if_neg h2]
 have e0 : mk = 1 ∨ mk = 2 ∨ mk = 6 := by omega
 rcases e0 with rfl | rfl | rfl
 ·clear h2
  replace mk2 := hide mk2
  replace hck := hide hck
  repeat' (first
   | (simp -implicitDefEqProofs only [*,List.cons_append,List.nil_append,frB,List.length_map,addFp_wr,zr,Nat.reduceAdd,Nat.reduceSub,Nat.reduceMul,Nat.reduceLT,Nat.reduceLeDiff,Nat.reduceEqDiff,Nat.reduceBEq,reduceIte,reduceCtorEq,Int.reduceLE,Int.reduceLT,Int.reduceToNat,Int.reduceEq,Int.reduceNe])
   | ((first|apply zk0|apply zk1|apply zk2|apply zk3|apply zk4|apply zk5|apply zk6|apply zk7|apply zk8|apply zk9) <;> intro hc)
   |(refine callP0 rfl ?_)
   |(refine callD0 rfl ?_)
   |(refine cP (kc.out) ?_)
   |(refine cD (kc.out) ?_)
   |(refine cF (kc.out) ?_)
   | fail)
  refine callDA [100002] kd (fun H2 hh => ⟨fz_done (by rw [hh 100002 (by simp)];exact cellsOf_self),.inl (.inl fz_f),trivial⟩) ?_
  by_cases h3 : hasK kOb D t = true
  ·rw [if_pos h3]
   rw [h3]
   clear kd kp kb
   replace hz := hide hz
   replace hrP := hide hrP
   replace hrD := hide hrD
   repeat' (first
    | (simp -implicitDefEqProofs only [*,addFp_wr,List.cons_append,List.nil_append,frB,List.length_map,zr,Nat.reduceAdd,Nat.reduceSub,Nat.reduceMul,Nat.reduceLT,Nat.reduceLeDiff,Nat.reduceEqDiff,Nat.reduceBEq,reduceIte,reduceCtorEq,Int.reduceLE,Int.reduceLT,Int.reduceToNat,Int.reduceEq,Int.reduceNe])
    | ((first|apply zk0|apply zk1|apply zk2|apply zk3|apply zk4|apply zk5|apply zk6|apply zk7|apply zk8|apply zk9) <;> intro hc)
    |(refine callP0 rfl ?_)
    |(refine callD0 rfl ?_)
    | fail)
   exact .inl (tq_same (D := D) (P := P) (z := z) (v2 := v2) (v3 := v3) (v4 := v4) rfl hz.out rfl (by repeat (first|exact small_mk rfl | refine small_upd rfl ?_ | refine small_mix ?_)) rfl rfl rfl rfl rfl)
  rw [if_neg h3]
  rw [show hasK kOb D t = false by simpa using h3]
  have h3' := hide h3
  clear h3
  repeat' (first
   | (simp -implicitDefEqProofs only [*,addFp_wr,List.cons_append,List.nil_append,frB,List.length_map,zr,Nat.reduceAdd,Nat.reduceSub,Nat.reduceMul,Nat.reduceLT,Nat.reduceLeDiff,Nat.reduceEqDiff,Nat.reduceBEq,reduceIte,reduceCtorEq,Int.reduceLE,Int.reduceLT,Int.reduceToNat,Int.reduceEq,Int.reduceNe])
   | ((first|apply zk0|apply zk1|apply zk2|apply zk3|apply zk4|apply zk5|apply zk6|apply zk7|apply zk8|apply zk9) <;> intro hc)
   |(refine callP0 rfl ?_)
   |(refine callD0 rfl ?_)
   | fail)
  refine callDA [100101,100102] kp (fun H2 hh => ⟨fz_parts (v4 := v4) (v3 := v3) hrP (by rw [hh 100102 (by simp)];exact cellsOf_self) hz (by rw [hh 100101 (by simp)];exact cellsOf_self),.inl (.inl fz_f),trivial⟩) ?_
  replace kb := hide kb
  generalize hasK kPt P t = hk at *
  replace hz := hide hz
  replace hrP := hide hrP
  replace hrD := hide hrD
  clear kd kp
  repeat' (first
   | (simp -implicitDefEqProofs only [*,addFp_wr,List.cons_append,List.nil_append,frB,List.length_map,zr,Nat.reduceAdd,Nat.reduceSub,Nat.reduceMul,Nat.reduceLT,Nat.reduceLeDiff,Nat.reduceEqDiff,Nat.reduceBEq,reduceIte,reduceCtorEq,Int.reduceLE,Int.reduceLT,Int.reduceToNat,Int.reduceEq,Int.reduceNe])
   | ((first|apply zk0|apply zk1|apply zk2|apply zk3|apply zk4|apply zk5|apply zk6|apply zk7|apply zk8|apply zk9) <;> intro hc)
   |(refine callP0 rfl ?_)
   |(refine callD0 rfl ?_)
   | fail)
  refine callHi rfl kb.out rfl rfl (hi_mk (by repeat (first|exact small_mk rfl | refine small_upd rfl ?_)) rfl rfl rfl rfl rfl rfl) tq_hi hi_R rfl ?_
  rintro r hl' ⟨z',w2,w3,w4,hz',rfl,rfl,hwb⟩
  replace hz' := hide hz'
  generalize beginV D P t sz = V at *
  refine srun_sound 300 _ _ _ _ ?_
  repeat' (first
   | (simp -implicitDefEqProofs only [*,mixH_at,addFp_wr,zr,Nat.reduceAdd,Nat.reduceSub,Nat.reduceMul,Nat.reduceLT,Nat.reduceLeDiff,Nat.reduceEqDiff,Nat.reduceBEq,reduceIte,reduceCtorEq,Int.reduceLE,Int.reduceLT,Int.reduceToNat,Int.reduceEq,Int.reduceNe])
   | ((first|apply zk0|apply zk1|apply zk2|apply zk3|apply zk4|apply zk5|apply zk6|apply zk7|apply zk8|apply zk9) <;> intro hc)
   |(refine callP0 rfl ?_)
   |(refine callD0 rfl ?_)
   | fail)
  exact .inl (tq_same (D := V.2.1.1) (P := V.2.1.2) (z := z') (v2 := w2) (v3 := w3) (v4 := w4) rfl hz'.out rfl (by repeat (first|exact small_mk rfl | refine small_upd rfl ?_ | refine small_mix ?_)) rfl rfl rfl rfl rfl)
 ·clear h2
  replace mk2 := hide mk2
  replace hck := hide hck
  repeat' (first
   | (simp -implicitDefEqProofs only [*,List.cons_append,List.nil_append,frB,List.length_map,addFp_wr,zr,Nat.reduceAdd,Nat.reduceSub,Nat.reduceMul,Nat.reduceLT,Nat.reduceLeDiff,Nat.reduceEqDiff,Nat.reduceBEq,reduceIte,reduceCtorEq,Int.reduceLE,Int.reduceLT,Int.reduceToNat,Int.reduceEq,Int.reduceNe])
   | ((first|apply zk0|apply zk1|apply zk2|apply zk3|apply zk4|apply zk5|apply zk6|apply zk7|apply zk8|apply zk9) <;> intro hc)
   |(refine callP0 rfl ?_)
   |(refine callD0 rfl ?_)
   |(refine cP (kc.out) ?_)
   |(refine cD (kc.out) ?_)
   |(refine cF (kc.out) ?_)
   | fail)
  refine callDA [100002] kd (fun H2 hh => ⟨fz_done (by rw [hh 100002 (by simp)];exact cellsOf_self),.inl (.inl fz_f),trivial⟩) ?_
  by_cases h3 : hasK kOb D t = true
  ·rw [if_pos h3]
   rw [h3]
   clear kd kp kb
   replace hz := hide hz
   replace hrP := hide hrP
   replace hrD := hide hrD
   repeat' (first
    | (simp -implicitDefEqProofs only [*,addFp_wr,List.cons_append,List.nil_append,frB,List.length_map,zr,Nat.reduceAdd,Nat.reduceSub,Nat.reduceMul,Nat.reduceLT,Nat.reduceLeDiff,Nat.reduceEqDiff,Nat.reduceBEq,reduceIte,reduceCtorEq,Int.reduceLE,Int.reduceLT,Int.reduceToNat,Int.reduceEq,Int.reduceNe])
    | ((first|apply zk0|apply zk1|apply zk2|apply zk3|apply zk4|apply zk5|apply zk6|apply zk7|apply zk8|apply zk9) <;> intro hc)
    |(refine callP0 rfl ?_)
    |(refine callD0 rfl ?_)
    | fail)
   exact .inl (tq_same (D := D) (P := P) (z := z) (v2 := v2) (v3 := v3) (v4 := v4) rfl hz.out rfl (by repeat (first|exact small_mk rfl | refine small_upd rfl ?_ | refine small_mix ?_)) rfl rfl rfl rfl rfl)
  rw [if_neg h3]
  rw [show hasK kOb D t = false by simpa using h3]
  have h3' := hide h3
  clear h3
  repeat' (first
   | (simp -implicitDefEqProofs only [*,addFp_wr,List.cons_append,List.nil_append,frB,List.length_map,zr,Nat.reduceAdd,Nat.reduceSub,Nat.reduceMul,Nat.reduceLT,Nat.reduceLeDiff,Nat.reduceEqDiff,Nat.reduceBEq,reduceIte,reduceCtorEq,Int.reduceLE,Int.reduceLT,Int.reduceToNat,Int.reduceEq,Int.reduceNe])
   | ((first|apply zk0|apply zk1|apply zk2|apply zk3|apply zk4|apply zk5|apply zk6|apply zk7|apply zk8|apply zk9) <;> intro hc)
   |(refine callP0 rfl ?_)
   |(refine callD0 rfl ?_)
   | fail)
  refine callDA [100101,100102] kp (fun H2 hh => ⟨fz_parts (v4 := v4) (v3 := v3) hrP (by rw [hh 100102 (by simp)];exact cellsOf_self) hz (by rw [hh 100101 (by simp)];exact cellsOf_self),.inl (.inl fz_f),trivial⟩) ?_
  cases hg : pGet P t with
  | none =>
   rw [pGet_none hrP hg]
   replace hz := hide hz
   replace hrP := hide hrP
   replace hrD := hide hrD
   replace hg := hide hg
   clear kd kp kb
   repeat' (first
    | (simp -implicitDefEqProofs only [*,addFp_wr,List.cons_append,List.nil_append,frB,List.length_map,zr,Nat.reduceAdd,Nat.reduceSub,Nat.reduceMul,Nat.reduceLT,Nat.reduceLeDiff,Nat.reduceEqDiff,Nat.reduceBEq,reduceIte,reduceCtorEq,Int.reduceLE,Int.reduceLT,Int.reduceToNat,Int.reduceEq,Int.reduceNe])
    | ((first|apply zk0|apply zk1|apply zk2|apply zk3|apply zk4|apply zk5|apply zk6|apply zk7|apply zk8|apply zk9) <;> intro hc)
    |(refine callP0 rfl ?_)
    |(refine callD0 rfl ?_)
    | fail)
   exact .inl (tq_same (D := D) (P := P) (z := z) (v2 := v2) (v3 := v3) (v4 := v4) rfl hz.out rfl (by repeat (first|exact small_mk rfl | refine small_upd rfl ?_ | refine small_mix ?_)) rfl rfl rfl rfl rfl)
  | some p =>
   obtain ⟨g1,g2,g3⟩ := pGet_some hrP hg
   rw [g3]
   have kD := data_hi D P p t 2 sz fr.toNat b z v1 v2 v3 v4 zs hD hrD (by omega) hrP g1 g2 ⟨by have := mk2.out rfl;omega,by omega,by have := hok.p.ok p (List.mem_of_getElem? g1);omega,by omega,by have := hok.p.ok p (List.mem_of_getElem? g1);omega⟩ hz
   rw [Int.toNat_of_nonneg mf.1] at kD
   replace kD := hide kD
   generalize ptIdx P t = i at *
   replace hz := hide hz
   replace hrP := hide hrP
   replace hrD := hide hrD
   replace hg := hide hg
   replace g1 := hide g1
   clear kd kp kb
   repeat' (first
    | (simp -implicitDefEqProofs only [*,addFp_wr,List.cons_append,List.nil_append,frB,List.length_map,zr,Nat.reduceAdd,Nat.reduceSub,Nat.reduceMul,Nat.reduceLT,Nat.reduceLeDiff,Nat.reduceEqDiff,Nat.reduceBEq,reduceIte,reduceCtorEq,Int.reduceLE,Int.reduceLT,Int.reduceToNat,Int.reduceEq,Int.reduceNe])
    | ((first|apply zk0|apply zk1|apply zk2|apply zk3|apply zk4|apply zk5|apply zk6|apply zk7|apply zk8|apply zk9) <;> intro hc)
    |(refine callP0 rfl ?_)
    |(refine callD0 rfl ?_)
    | fail)
   refine callHi rfl kD.out rfl rfl (hi_mk (by repeat (first|exact small_mk rfl | refine small_upd rfl ?_)) rfl rfl rfl rfl rfl rfl) tq_hi hi_R rfl ?_
   rintro r hl' ⟨z',w2,w3,w4,hz',rfl,rfl,hwb⟩
   replace hz' := hide hz'
   generalize dataV D P p t fr b = V at *
   refine srun_sound 300 _ _ _ _ ?_
   repeat' (first
    | (simp -implicitDefEqProofs only [*,mixH_at,addFp_wr,zr,Nat.reduceAdd,Nat.reduceSub,Nat.reduceMul,Nat.reduceLT,Nat.reduceLeDiff,Nat.reduceEqDiff,Nat.reduceBEq,reduceIte,reduceCtorEq,Int.reduceLE,Int.reduceLT,Int.reduceToNat,Int.reduceEq,Int.reduceNe])
    | ((first|apply zk0|apply zk1|apply zk2|apply zk3|apply zk4|apply zk5|apply zk6|apply zk7|apply zk8|apply zk9) <;> intro hc)
    |(refine callP0 rfl ?_)
    |(refine callD0 rfl ?_)
    | fail)
   exact .inl (tq_same (D := V.2.1.1) (P := V.2.1.2) (z := z') (v2 := w2) (v3 := w3) (v4 := w4) rfl hz'.out rfl (by repeat (first|exact small_mk rfl | refine small_upd rfl ?_ | refine small_mix ?_)) rfl rfl rfl rfl rfl)
 ·clear h2
  replace mk2 := hide mk2
  replace hck := hide hck
  repeat' (first
   | (simp -implicitDefEqProofs only [*,List.cons_append,List.nil_append,frB,List.length_map,addFp_wr,zr,Nat.reduceAdd,Nat.reduceSub,Nat.reduceMul,Nat.reduceLT,Nat.reduceLeDiff,Nat.reduceEqDiff,Nat.reduceBEq,reduceIte,reduceCtorEq,Int.reduceLE,Int.reduceLT,Int.reduceToNat,Int.reduceEq,Int.reduceNe])
   | ((first|apply zk0|apply zk1|apply zk2|apply zk3|apply zk4|apply zk5|apply zk6|apply zk7|apply zk8|apply zk9) <;> intro hc)
   |(refine callP0 rfl ?_)
   |(refine callD0 rfl ?_)
   |(refine cP (kc.out) ?_)
   |(refine cD (kc.out) ?_)
   |(refine cF (kc.out) ?_)
   | fail)
  refine callDA [100002] kd (fun H2 hh => ⟨fz_done (by rw [hh 100002 (by simp)];exact cellsOf_self),.inl (.inl fz_f),trivial⟩) ?_
  by_cases h3 : hasK kOb D t = true
  ·rw [if_pos h3]
   rw [h3]
   clear kd kp kb
   replace hz := hide hz
   replace hrP := hide hrP
   replace hrD := hide hrD
   repeat' (first
    | (simp -implicitDefEqProofs only [*,addFp_wr,List.cons_append,List.nil_append,frB,List.length_map,zr,Nat.reduceAdd,Nat.reduceSub,Nat.reduceMul,Nat.reduceLT,Nat.reduceLeDiff,Nat.reduceEqDiff,Nat.reduceBEq,reduceIte,reduceCtorEq,Int.reduceLE,Int.reduceLT,Int.reduceToNat,Int.reduceEq,Int.reduceNe])
    | ((first|apply zk0|apply zk1|apply zk2|apply zk3|apply zk4|apply zk5|apply zk6|apply zk7|apply zk8|apply zk9) <;> intro hc)
    |(refine callP0 rfl ?_)
    |(refine callD0 rfl ?_)
    | fail)
   exact .inl (tq_same (D := D) (P := P) (z := z) (v2 := v2) (v3 := v3) (v4 := v4) rfl hz.out rfl (by repeat (first|exact small_mk rfl | refine small_upd rfl ?_ | refine small_mix ?_)) rfl rfl rfl rfl rfl)
  rw [if_neg h3]
  rw [show hasK kOb D t = false by simpa using h3]
  have h3' := hide h3
  clear h3
  repeat' (first
   | (simp -implicitDefEqProofs only [*,addFp_wr,List.cons_append,List.nil_append,frB,List.length_map,zr,Nat.reduceAdd,Nat.reduceSub,Nat.reduceMul,Nat.reduceLT,Nat.reduceLeDiff,Nat.reduceEqDiff,Nat.reduceBEq,reduceIte,reduceCtorEq,Int.reduceLE,Int.reduceLT,Int.reduceToNat,Int.reduceEq,Int.reduceNe])
   | ((first|apply zk0|apply zk1|apply zk2|apply zk3|apply zk4|apply zk5|apply zk6|apply zk7|apply zk8|apply zk9) <;> intro hc)
   |(refine callP0 rfl ?_)
   |(refine callD0 rfl ?_)
   | fail)
  refine callDA [100101,100102] kp (fun H2 hh => ⟨fz_parts (v4 := v4) (v3 := v3) hrP (by rw [hh 100102 (by simp)];exact cellsOf_self) hz (by rw [hh 100101 (by simp)];exact cellsOf_self),.inl (.inl fz_f),trivial⟩) ?_
  cases hg : pGet P t with
  | none =>
   rw [pGet_none hrP hg]
   replace hz := hide hz
   replace hrP := hide hrP
   replace hrD := hide hrD
   replace hg := hide hg
   clear kd kp kb
   repeat' (first
    | (simp -implicitDefEqProofs only [*,addFp_wr,List.cons_append,List.nil_append,frB,List.length_map,zr,Nat.reduceAdd,Nat.reduceSub,Nat.reduceMul,Nat.reduceLT,Nat.reduceLeDiff,Nat.reduceEqDiff,Nat.reduceBEq,reduceIte,reduceCtorEq,Int.reduceLE,Int.reduceLT,Int.reduceToNat,Int.reduceEq,Int.reduceNe])
    | ((first|apply zk0|apply zk1|apply zk2|apply zk3|apply zk4|apply zk5|apply zk6|apply zk7|apply zk8|apply zk9) <;> intro hc)
    |(refine callP0 rfl ?_)
    |(refine callD0 rfl ?_)
    | fail)
   exact .inl (tq_same (D := D) (P := P) (z := z) (v2 := v2) (v3 := v3) (v4 := v4) rfl hz.out rfl (by repeat (first|exact small_mk rfl | refine small_upd rfl ?_ | refine small_mix ?_)) rfl rfl rfl rfl rfl)
  | some p =>
   obtain ⟨g1,g2,g3⟩ := pGet_some hrP hg
   rw [g3]
   obtain ⟨c1,c2,c3⟩ := part_cells (z := z) (v := v4) g1 g2
   have hlt : (((ptIdx P t : Nat) : Int) < (P.length : Int)) := by have := (List.getElem?_eq_some_iff.1 g1).1;omega
   generalize ptIdx P t = i at *
   have hy := yOf_at hrP (List.mem_of_getElem? g1)
   rw [g2] at hy
   replace hy := hide hy
   have hZ := hide hz
   replace hrP := hide hrP
   replace hrD := hide hrD
   replace hg := hide hg
   replace g1 := hide g1
   clear kd kp kb hz
   cases z with
   | true =>
    have h0 : p.2.2 = [] := by rw [← hy.out];exact hZ.out rfl
    rw [h0] at c2
    dsimp only
    rw [h0]
    have c2' : (rowA (aY true v4) t P)[i * 3 + 2]? = some (.f .nil) := c2
    clear c2
    repeat' (first
     | (simp -implicitDefEqProofs only [*,addFp_wr,zr,Nat.reduceAdd,Nat.reduceSub,Nat.reduceMul,Nat.reduceLT,Nat.reduceLeDiff,Nat.reduceEqDiff,Nat.reduceBEq,reduceIte,reduceCtorEq,Int.reduceLE,Int.reduceLT,Int.reduceToNat,Int.reduceEq,Int.reduceNe])
     | ((first|apply zk0|apply zk1|apply zk2|apply zk3|apply zk4|apply zk5|apply zk6|apply zk7|apply zk8|apply zk9) <;> intro hc)
     |(refine callP0 rfl ?_)
     |(refine callD0 rfl ?_)
     | fail)
    exact .inl (tq_same (D := D) (P := P) (z := true) (v2 := v2) (v3 := v3) (v4 := v4) rfl hZ.out rfl (by repeat (first|exact small_mk rfl | refine small_upd rfl ?_ | refine small_mix ?_)) rfl rfl rfl rfl rfl)
   | false =>
    have c2' : (rowA (aY false v4) t P)[i * 3 + 2]? = some (.sl 100102 v4 1 0 p.2.2.length) := c2
    clear c2
    repeat' (first
     | (simp -implicitDefEqProofs only [*,addFp_wr,zr,Nat.reduceAdd,Nat.reduceSub,Nat.reduceMul,Nat.reduceLT,Nat.reduceLeDiff,Nat.reduceEqDiff,Nat.reduceBEq,reduceIte,reduceCtorEq,Int.reduceLE,Int.reduceLT,Int.reduceToNat,Int.reduceEq,Int.reduceNe])
     | ((first|apply zk0|apply zk1|apply zk2|apply zk3|apply zk4|apply zk5|apply zk6|apply zk7|apply zk8|apply zk9) <;> intro hc)
     |(refine callP0 rfl ?_)
     |(refine callD0 rfl ?_)
     | fail)
    exact .inl (tq_same (D := D) (P := P) (z := false) (v2 := v2) (v3 := v3) (v4 := v4) rfl hZ.out rfl (by repeat (first|exact small_mk rfl | refine small_upd rfl ?_ | refine small_mix ?_)) rfl rfl rfl rfl rfl)
end Go.Proofs.YtjacnfjlocajoaaDoor
