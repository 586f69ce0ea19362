/-
  The document's data, take, Take and Offset. No statement of the seat is proved here; no conditions.
-/
import Derived.Test.YtjacnfjlocajoaaDoorRw4
namespace Go.Proofs.YtjacnfjlocajoaaDoor
open Go.RowKit Go.Shelf
set_option linter.unusedVariables false
set_option linter.unusedSimpArgs false
set_option maxRecDepth 100000

section
variable {P : Program} {R : Env → Heap → Prop} {Λ : Lams} {k : List It} {env : Env} {H : Heap} {d j : Nat} {f : Operand} {args : List Operand} {g : Option (Nat × Bool)} {los : List LO} {dos : List DO} {acc : List Fp} {od : List Nat} {fid : FuncId} {args' : List AV} {rs : List RS} {nw : List Nat} {n : Nat} {el : List (Nat × AV)} {hl : List (Nat × Nat × AObj)}
theorem callDAk (m : Nat) (rd : List Nat) (hF : FRet P fid args' rs) (hs : ∀ H2 : Heap,(∀ id ∈ rd,H2 id = H id) → FzAs H2 (args.map (evA env)) args')
  (h : srun P R m Λ (.dops dos (j + 1) (addFp j rd (wrL d (nextSs 0 rs)) acc) :: k) (putE env (some d) (oneOrTup (putS d 0 rs))) (putHs d 0 rs H)) (hg : gd g env = some true := by rfl) (hfn : evA env f = .f (.fn (.func fid)) := by rfl) (hp : rs.all (RS.all FV.plain) = true := by first | rfl | (simp [RS.all,RC.all,FV.plain];done)) (hfree : Free d H := by first | exact free_0 | exact free_mk rfl | (repeat (first|exact free_0 | exact free_mk rfl | exact free_mk (by first | (simp;done) | fail) | refine free_upd rfl ?_ | refine free_kill ?_));first | done | fail) (hk : noConf acc od rd (wrL d (nextSs 0 rs)) = true := by rfl) : Ax P R Λ (.dops (⟨some d,.call f args,g,od⟩ :: dos) j acc :: k) env H := by
 have out : ∀ (H : Heap) id,id ∉ wrL d (nextSs 0 rs) → putHs d 0 rs H id = H id := fun H id hid => putHs_out fun j _ h2 e => hid (mem_wrL.2 ⟨j,h2,e⟩)
 refine ax_dCall (f := f) (args := args) (rd := rd) (wr := wrL d (nextSs 0 rs)) (v := oneOrTup (putS d 0 rs)) (H' := putHs d 0 rs H) rfl hg (out H) (fun H2 hr hw => ?_) hk (srun_sound m _ _ _ _ h)
 rw [hfn]
 refine ACall.mono (call_fza (t := d) hF (fun j hj => by rw [hw _ (mem_wrL.2 ⟨j,hj,rfl⟩)];exact hfree j) (hs H2 hr) hp) fun r H' ⟨h1,h2⟩ => ⟨h1,?_⟩
 rw [h2]
 funext id
 unfold mix
 split
 ·rename_i hid;exact putHs_at (hw id hid)
 ·rename_i hid;exact out H2 id hid
end
theorem plain_encU (l : List UInt8) : (rowF encU l).all FV.plain = true := by
 refine List.all_eq_true.2 fun x hx => ?_
 unfold rowF at hx
 obtain ⟨a,ha,hb⟩ := List.mem_flatten.1 hx
 obtain ⟨y,_,rfl⟩ := List.mem_map.1 ha
 simp only [encU,List.mem_cons,List.not_mem_nil,or_false] at hb
 subst hb;rfl
set_option maxHeartbeats 8000000 in
theorem data_z (D : List Ob) (P : List Pt) (p : Pt) (mk sz : Int) (t : ByteArray) (f : Nat) (b : List UInt8) (h : TkOk D P) (hpl : p.2.2.length ≤ 200000) (hbl : b.length ≤ 200000) (hf : f ≤ 2000000) (hps : -1000000 ≤ p.2.1 ∧ p.2.1 ≤ 1000000) : FRet Tryd.prog 63 [aRc (D,P),.agg ((fPt p).map .f),aMg (mk,t,(f : Int),sz,b)] (rRM (dataR D P p f b)) := by
 obtain ⟨hD,hrD,hP,hrP⟩ := h
 obtain ⟨pd,ps,pb⟩ := p
 dsimp only at hpl hps
 unfold dataR
 dsimp only
 rw [Int.toNat_natCast]
 refine FCall.frz (FCall.of_ax low_ref8_data ?_)
 dsimp only [l_ref8_data,aRc,aMg,fMg,fPt,frB,List.map]
 refine srun_sound 300 _ _ _ _ ?_
 by_cases q1 : (pb.length : Int) < f
 ·rw [if_pos q1]
  have d1 : decide (pb.length < f) = true := dcT (by omega)
  have d1' : decide ((f : Int) > (pb.length : Int)) = true := dcT (by omega)
  replace q1 := hide q1
  repeat' (first
   | (simp -implicitDefEqProofs only [*,List.length_map,zr,Nat.reduceAdd,Nat.reduceSub,Nat.reduceMul,Nat.reduceLT,Nat.reduceLeDiff,Nat.reduceEqDiff,Nat.reduceBEq,reduceIte,reduceCtorEq,Int.reduceLE,Int.reduceLT,Int.reduceToNat,Int.reduceEq,Int.reduceNe])
   | ((first|apply zk0|apply zk1|apply zk2|apply zk3|apply zk4|apply zk5|apply zk6|apply zk7|apply zk8|apply zk9) <;> intro hc)
   |(refine callP0 rfl ?_)
   |(refine callD0 rfl ?_)
   | fail)
  exact z_ff
 rw [if_neg q1]
 have d1 : decide (pb.length < f) = false := dcF (by omega)
 have d1' : decide ((f : Int) > (pb.length : Int)) = false := dcF (by omega)
 have hw2 : IntKind.i64.wrap ((pb.length : Int) - (f : Int)) = ((pb.length - f : Nat) : Int) := by rw [wrap64] <;> omega
 have hmn : min ((pb.length - f : Nat) : Int) ((b.length : Nat) : Int) = ((min (pb.length - f) b.length : Nat) : Int) := by omega
 obtain ⟨k,hk⟩ : ∃ k,min (pb.length - f) b.length = k := ⟨_,rfl⟩
 rw [hk] at hmn ⊢
 have hk1 : k ≤ b.length := by omega
 have hk2 : f + k ≤ pb.length := by omega
 have hw3 : IntKind.i64.wrap ((f : Int) + (k : Int)) = ((f + k : Nat) : Int) := by rw [wrap64] <;> omega
 have g1 : ((k : Int) ≤ (b.length : Int)) = True := by rw [eq_iff_iff,iff_true];omega
 have g2 : ((f : Int) ≤ ((f + k : Nat) : Int)) = True := by rw [eq_iff_iff,iff_true];omega
 have g3 : (((f + k : Nat) : Int) ≤ (pb.length : Int)) = True := by rw [eq_iff_iff,iff_true];omega
 have g4 : ((b.length : Int) ≤ (b.length : Int)) = True := by rw [eq_iff_iff,iff_true];exact Int.le_refl _
 have kE := equalY_f ((pb.drop f).take k) (b.take k) (by rw [List.length_take];omega)
 have e1 : List.drop f (List.take (f + k) (List.map encU pb)) = ((pb.drop f).take k).map encU := by
  rw [List.drop_take,show f + k - f = k by omega,List.map_take,List.map_drop]
 have e2 : List.take k (List.map encU b) = (b.take k).map encU := List.map_take.symm
 by_cases q2 : (pb.drop f).take k = b.take k
 case neg =>
  rw [if_neg q2]
  have d2 := dcF q2
  replace q2 := hide q2
  generalize (pb.drop f).take k = U at *
  generalize b.take k = W at *
  dsimp only [frB] at kE
  replace q1 := hide q1
  repeat' (first
   | (simp -implicitDefEqProofs only [*,List.length_map,List.drop_zero,zr,Nat.reduceAdd,Nat.reduceSub,Nat.reduceMul,Nat.reduceLT,Nat.reduceLeDiff,Nat.reduceEqDiff,Nat.reduceBEq,reduceIte,reduceCtorEq,Int.reduceLE,Int.reduceLT,Int.reduceToNat,Int.reduceEq,Int.reduceNe])
   | ((first|apply zk0|apply zk1|apply zk2|apply zk3|apply zk4|apply zk5|apply zk6|apply zk7|apply zk8|apply zk9) <;> intro hc)
   |(refine callP0 rfl ?_)
   |(refine callD0 rfl ?_)
   |(refine cP (kE) ?_)
   |(refine cD (kE) ?_)
   |(refine cF (kE) ?_)
   | fail)
  exact z_ff
 rw [if_pos q2]
 have d2 := dcT q2
 have hw4 : IntKind.i64.wrap ((f : Int) + (b.length : Int)) = ((f + b.length : Nat) : Int) := by rw [wrap64] <;> omega
 replace q1 := hide q1
 replace q2 := hide q2
 by_cases q3 : ps < (f : Int) + b.length
 ·rw [if_pos q3]
  have d3 : decide (((f + b.length : Nat) : Int) > ps) = true := dcT (by omega)
  have d3' : decide (ps < ((f + b.length : Nat) : Int)) = true := dcT (by omega)
  replace q3 := hide q3
  generalize (pb.drop f).take k = U at *
  generalize b.take k = W at *
  dsimp only [frB] at kE
  repeat' (first
   | (simp -implicitDefEqProofs only [*,List.length_map,List.drop_zero,zr,Nat.reduceAdd,Nat.reduceSub,Nat.reduceMul,Nat.reduceLT,Nat.reduceLeDiff,Nat.reduceEqDiff,Nat.reduceBEq,reduceIte,reduceCtorEq,Int.reduceLE,Int.reduceLT,Int.reduceToNat,Int.reduceEq,Int.reduceNe])
   | ((first|apply zk0|apply zk1|apply zk2|apply zk3|apply zk4|apply zk5|apply zk6|apply zk7|apply zk8|apply zk9) <;> intro hc)
   |(refine callP0 rfl ?_)
   |(refine callD0 rfl ?_)
   |(refine cP (kE) ?_)
   |(refine cD (kE) ?_)
   |(refine cF (kE) ?_)
   | fail)
  exact z_ff
 rw [if_neg q3]
 have d3 : decide (((f + b.length : Nat) : Int) > ps) = false := dcF (by omega)
 have d3' : decide (ps < ((f + b.length : Nat) : Int)) = false := dcF (by omega)
 replace q3 := hide q3
 have e3 : List.drop k (List.take b.length (List.map encU b)) = (b.drop k).map encU := by rw [List.take_of_length_le (by rw [List.length_map];exact Nat.le_refl _),List.map_drop]
 have e3' : List.drop k (List.map encU b) = (b.drop k).map encU := List.map_drop.symm
 have kC := concatY_f [[frB pb],[frB (b.drop k)]] pb (b.drop k) rfl rfl rfl (by rw [List.length_drop];omega)
 have hBl : (pb ++ b.drop k).length ≤ 1000000 := by rw [List.length_append,List.length_drop];omega
 have kw := whole_z D P pd (pb ++ b.drop k) hD hrD hP hBl
 have kp := withPart_z D P (pd,ps,pb ++ b.drop k) hP hrP
 generalize pb ++ b.drop k = B at *
 generalize b.drop k = E at *
 generalize (pb.drop f).take k = U at *
 generalize b.take k = W at *
 replace hrD := hide hrD
 replace hrP := hide hrP
 dsimp only [frB] at kE kC
 by_cases q4 : (B.length : Int) = ps
 ·rw [if_pos q4]
  have d4 := dcT q4
  replace q4 := hide q4
  clear kp
  generalize wholeR D P pd B = V at *
  obtain ⟨q,⟨G,F⟩,a1,a2,a3,a4,a5⟩ := V
  dsimp only [rRM,fMg,List.map,aRc,rInt,frB] at kw ⊢
  repeat' (first
   | (simp -implicitDefEqProofs only [*,List.length_map,List.drop_zero,zr,Nat.reduceAdd,Nat.reduceSub,Nat.reduceMul,Nat.reduceLT,Nat.reduceLeDiff,Nat.reduceEqDiff,Nat.reduceBEq,reduceIte,reduceCtorEq,Int.reduceLE,Int.reduceLT,Int.reduceToNat,Int.reduceEq,Int.reduceNe])
   | ((first|apply zk0|apply zk1|apply zk2|apply zk3|apply zk4|apply zk5|apply zk6|apply zk7|apply zk8|apply zk9) <;> intro hc)
   |(refine callP0 rfl ?_)
   |(refine callD0 rfl ?_)
   |(refine cP (kE) ?_)
   |(refine cD (kE) ?_)
   |(refine cF (kE) ?_)
   | fail)
  refine callDAk 6 [62] kC (fun H2 hh => ⟨.inl (.inl (fz_so (so_row0 (enc := fun x : FV => [x]) (sz := 1) (l := [.fr 1 (pb.map encU),.fr 1 (E.map encU)]) (fun _ => rfl) rfl (by rw [hh 62 (by simp)];rfl) rfl))),trivial⟩) ?_ (hp := by simp only [RS.all,RC.all,List.all_cons,List.all_nil,Bool.and_true];exact plain_encU B)
  simp -implicitDefEqProofs only [addFp_wr,zr,Nat.reduceAdd,Nat.reduceSub,Nat.reduceMul,Nat.reduceLT,Nat.reduceLeDiff,Nat.reduceEqDiff,Nat.reduceBEq,reduceIte,reduceCtorEq,Int.reduceLE,Int.reduceLT,Int.reduceToNat,Int.reduceEq,Int.reduceNe]
  refine ax_weakA [] (nw := []) (n := 89) (el := [(3,.ptr 3 1 0),(4,.ptr 4 1 0),(6,.ptr 6 1 0),(7,.ptr 7 1 0)]) (hl := [(3,1,.cells [.f (frObs D),.f (frPts P)]),(4,1,.cells [.f (.str pd),.f (.int .i64 ps),.f (.fr 1 (B.map encU))]),(6,1,.cells [.f .nil,.f .nil]),(7,1,.cells [.f (.int .i64 0),.f (.str ⟨#[]⟩),.f (.int .i64 0),.f (.int .i64 0),.f .nil])]) rfl ?_ ?_
  ·refine wk_i ?_ ?_ <;> simp only [so_mf,mapOfH_some,so_ptf,so_cc,so_ff',cellsOf_some,List.drop_zero,List.take_succ_cons,List.take_zero,Nat.zero_add,Nat.le_refl,zw,Nat.reduceEqDiff,Nat.reduceBEq,Nat.reduceLT,Nat.reduceLeDiff,reduceIte,reduceCtorEq]
   exact so_row0 (enc := encU) (sz := 1) (l := B) (fun _ => rfl) rfl rfl rfl
  refine srun_sound 300 _ _ _ _ ?_
  repeat' (first
   | (simp -implicitDefEqProofs only [*,List.length_map,zr,Nat.reduceAdd,Nat.reduceSub,Nat.reduceMul,Nat.reduceLT,Nat.reduceLeDiff,Nat.reduceEqDiff,Nat.reduceBEq,reduceIte,reduceCtorEq,Int.reduceLE,Int.reduceLT,Int.reduceToNat,Int.reduceEq,Int.reduceNe])
   | ((first|apply zk0|apply zk1|apply zk2|apply zk3|apply zk4|apply zk5|apply zk6|apply zk7|apply zk8|apply zk9) <;> intro hc)
   |(refine callP0 rfl ?_)
   |(refine callD0 rfl ?_)
   |(refine cP (kw) ?_)
   |(refine cD (kw) ?_)
   |(refine cF (kw) ?_)
   | fail)
  exact z_vv
 ·rw [if_neg q4]
  have d4 := dcF q4
  replace q4 := hide q4
  clear kw
  generalize putR P (pd,ps,B) = F at *
  dsimp only [aRc,fPt,List.map,frB] at kp ⊢
  repeat' (first
   | (simp -implicitDefEqProofs only [*,List.length_map,List.drop_zero,zr,Nat.reduceAdd,Nat.reduceSub,Nat.reduceMul,Nat.reduceLT,Nat.reduceLeDiff,Nat.reduceEqDiff,Nat.reduceBEq,reduceIte,reduceCtorEq,Int.reduceLE,Int.reduceLT,Int.reduceToNat,Int.reduceEq,Int.reduceNe])
   | ((first|apply zk0|apply zk1|apply zk2|apply zk3|apply zk4|apply zk5|apply zk6|apply zk7|apply zk8|apply zk9) <;> intro hc)
   |(refine callP0 rfl ?_)
   |(refine callD0 rfl ?_)
   |(refine cP (kE) ?_)
   |(refine cD (kE) ?_)
   |(refine cF (kE) ?_)
   | fail)
  refine callDAk 6 [62] kC (fun H2 hh => ⟨.inl (.inl (fz_so (so_row0 (enc := fun x : FV => [x]) (sz := 1) (l := [.fr 1 (pb.map encU),.fr 1 (E.map encU)]) (fun _ => rfl) rfl (by rw [hh 62 (by simp)];rfl) rfl))),trivial⟩) ?_ (hp := by simp only [RS.all,RC.all,List.all_cons,List.all_nil,Bool.and_true];exact plain_encU B)
  simp -implicitDefEqProofs only [addFp_wr,zr,Nat.reduceAdd,Nat.reduceSub,Nat.reduceMul,Nat.reduceLT,Nat.reduceLeDiff,Nat.reduceEqDiff,Nat.reduceBEq,reduceIte,reduceCtorEq,Int.reduceLE,Int.reduceLT,Int.reduceToNat,Int.reduceEq,Int.reduceNe]
  refine ax_weakA [] (nw := []) (n := 89) (el := [(3,.ptr 3 1 0),(4,.ptr 4 1 0),(6,.ptr 6 1 0),(7,.ptr 7 1 0)]) (hl := [(3,1,.cells [.f (frObs D),.f (frPts P)]),(4,1,.cells [.f (.str pd),.f (.int .i64 ps),.f (.fr 1 (B.map encU))]),(6,1,.cells [.f .nil,.f .nil]),(7,1,.cells [.f (.int .i64 0),.f (.str ⟨#[]⟩),.f (.int .i64 0),.f (.int .i64 0),.f .nil])]) rfl ?_ ?_
  ·refine wk_i ?_ ?_ <;> simp only [so_mf,mapOfH_some,so_ptf,so_cc,so_ff',cellsOf_some,List.drop_zero,List.take_succ_cons,List.take_zero,Nat.zero_add,Nat.le_refl,zw,Nat.reduceEqDiff,Nat.reduceBEq,Nat.reduceLT,Nat.reduceLeDiff,reduceIte,reduceCtorEq]
   exact so_row0 (enc := encU) (sz := 1) (l := B) (fun _ => rfl) rfl rfl rfl
  refine srun_sound 300 _ _ _ _ ?_
  repeat' (first
   | (simp -implicitDefEqProofs only [*,List.length_map,zr,Nat.reduceAdd,Nat.reduceSub,Nat.reduceMul,Nat.reduceLT,Nat.reduceLeDiff,Nat.reduceEqDiff,Nat.reduceBEq,reduceIte,reduceCtorEq,Int.reduceLE,Int.reduceLT,Int.reduceToNat,Int.reduceEq,Int.reduceNe])
   | ((first|apply zk0|apply zk1|apply zk2|apply zk3|apply zk4|apply zk5|apply zk6|apply zk7|apply zk8|apply zk9) <;> intro hc)
   |(refine callP0 rfl ?_)
   |(refine callD0 rfl ?_)
   |(refine cP (kp) ?_)
   |(refine cD (kp) ?_)
   |(refine cF (kp) ?_)
   | fail)
  exact z_ff
end Go.Proofs.YtjacnfjlocajoaaDoor
