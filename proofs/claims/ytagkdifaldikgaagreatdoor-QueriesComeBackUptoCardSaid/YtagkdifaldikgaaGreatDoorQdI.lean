/-
  What has & between, and sums, where something is wrong. No statement of the seat is proved here; no conditions.
-/
import Derived.Test.YtagkdifaldikgaaGreatDoorQdH
import Derived.Test.YtagkdifaldikgaaGreatDoorPan2
namespace Go.Proofs.YtagkdifaldikgaaGreatDoor
open Go.RowKit Go.Shelf
set_option linter.unusedVariables false
set_option linter.unusedSimpArgs false
set_option maxRecDepth 100000
section
variable {P : Program} {R : Env → Heap → Prop} {Λ : Lams} {k : List It} {env : Env} {H : Heap} {d j : Nat} {f : Operand} {args : List Operand} {g : Option (Nat × Bool)} {los : List LO} {dos : List DO} {acc : List Fp} {od : List Nat} {fid : FuncId} {args' tl : List AV} {ri rs : List RS} {pcs pcs' : List RC}
theorem gPm {m : Nat} (hF : FRetP P fid pcs ri tl pcs' rs) (id ver : Nat) (cs l tl0 : List AV)
  (h : srun P R m Λ (.ops los :: k) (putE env (some d) (oneOrTup (putS d (nextCs 0 pcs') rs))) (upd (putHs d (nextCs 0 pcs') rs (putHcs d 0 pcs' (killL (idsC cs ++ idsS l) H))) id (ver,some (.cells (putCs d 0 pcs'))))) (hg : gd g env = some true := by rfl) (hfn : evA env f = .f (.fn (.func fid)) := by rfl) (ha : args.map (evA env) = .ptr id ver 0 :: (l ++ tl0) := by rfl) (hc : cellsOf ver (H id) = some cs := by rfl)
  (hpc : RcsOk H pcs cs := by (repeat (first|exact rfl | exact trivial | refine And.intro rfl ?_ | refine And.intro (Or.inr ⟨_,_,rfl,rfl,(by first | exact Nat.le_refl _ | exact row_le (fun _ => rfl) | exact row_le2 (fun _ => rfl))⟩) ?_));first | done | fail) (hri : RsOk H ri l := by (repeat (first|exact rfl | exact trivial | refine And.intro rfl ?_ | refine And.intro (Or.inr ⟨_,_,rfl,rfl,(by first | exact Nat.le_refl _ | exact row_le (fun _ => rfl) | exact row_le2 (fun _ => rfl))⟩) ?_));first | done | fail) (hnd : (idsC cs ++ idsS l).Nodup := by simp [idsC,idsS]) (hni : id ∉ idsC cs ++ idsS l := by simp [idsC,idsS]) (htl : LeL tl0 tl := by first | exact LeL.refl _ | ((repeat (first|exact LeL.refl _ | exact LeA.refl _ | exact LeA.nil _ | refine LeL.cons ?_ ?_ | refine LeA.agg ?_));first | done | fail)) (hp : tl.all AV.pure = true := by rfl) (hfree : Free d H := by first | exact free_0 | exact free_mk rfl | (repeat (first|exact free_0 | exact free_mk rfl | exact free_mk (by first | (simp;done) | fail) | refine free_upd rfl ?_ | refine free_kill ?_));first | done | fail) : Ax P R Λ (.ops (⟨some d,.call f args,g⟩ :: los) :: k) env H :=
 ax_call (f := f) (args := args) rfl hg (Q := fun r H' => r = oneOrTup (putS d (nextCs 0 pcs') rs) ∧ H' = upd (putHs d (nextCs 0 pcs') rs (putHcs d 0 pcs' (killL (idsC cs ++ idsS l) H))) id (ver,some (.cells (putCs d 0 pcs')))) (by rw [hfn,ha];exact call_pm (t := d) hF head_ptr hc hpc hri hnd hni htl hp (free_ne hfree hc) (fun j _ => hfree j)) fun v H' hq => by obtain ⟨h1,h2⟩ := hq;subst h1 h2;exact srun_sound m _ _ _ _ h
end
theorem panRd {f : FuncId} {t : ByteArray} {a : Nat} {H : Heap} (hF : FPanP Tryz.prog f (RD t a) [] [] IsW) (hc : cellsOf 1 (H 100001) = some [.f (.str t),.f (.int .i64 a)]) : PCall Tryz.prog f [.ptr 100001 1 0] H IsW :=
 pcall_pm (l := []) (tl0 := []) hF hc ⟨rfl,rfl,rfl⟩ rfl (by simp [idsC,idsS]) (by simp [idsC,idsS]) (LeL.refl _) rfl
theorem nxP_lt (t : ByteArray) (a : Nat) (ha : a ≤ t.size) {c : UInt8} (h : wrd (t.data.toList.drop a) = [c]) : a + 1 ≤ nxP t a := by
 have h1 := nxW_wrd t a
 rw [h] at h1
 have h2 : (nxW t a).size = 1 := by rw [show (nxW t a).size = (nxW t a).data.toList.length by simp,h1];rfl
 rw [nxW_size t a ha] at h2
 have h3 : a ≤ spN t a := Nat.le_add_right _ _
 omega
def PdF (t : ByteArray) (n r : Nat) (lv : Lv) (f : FuncId) : Prop := ∀ a ≤ t.size,3 * (t.size - a) + r ≤ n → pq n lv (t.data.toList.drop a) = none → FPanP Tryz.prog f (RD t a) [] [] IsW
structure PdC (t : ByteArray) (n : Nat) : Prop where
 one : PdF t n 1 .one 41
 both : PdF t n 2 .both 27
 sum : PdF t n 3 .sum 19
set_option maxHeartbeats 4000000 in
theorem both_p (t : ByteArray) (ht : (t.size : Int) ≤ 140737488355328) (n : Nat) (ih : ∀ m ≤ n,PdC t m) : PdF t (n + 1) 2 .both 27 := by
 intro a ha hbd h
 replace h : (pq n .one (t.data.toList.drop a)).bind (fun x => pq n (.bothL x.1) x.2) = none := h
 cases h1 : pq n .one (t.data.toList.drop a) with
 | none =>
  have k0 := (ih n (Nat.le_refl n)).one a ha (by omega) h1
  clear h h1 ih
  unfold RD at *
  replace k0 := hide k0
  refine PCall.of_ax low_graph_reader_both ?_
  dsimp only [l_graph_reader_both]
  refine srun_sound 300 _ _ _ _ ?_
  repeat' simp -implicitDefEqProofs only [*,addFp_wr,zr,seval]
  exact gPan k0.out 100001 1 [.f (.str t),.f (.int .i64 a)] [] []
 | some x =>
 obtain ⟨q0,l0⟩ := x
 rw [h1] at h
 replace h : pq n (.bothL q0) l0 = none := h
 obtain ⟨a0,ha0,haa,rfl⟩ := suf_at ha (pq_suf n _ _ _ _ h1)
 have k0 := (rdc t ht n).one a ha a0 ha0 q0 h1
 clear h1
 replace ih := hide ih
 rw [rcQ_eq] at k0
 unfold RD at k0 ⊢
 replace k0 := hide k0
 refine PCall.of_ax low_graph_reader_both ?_
 dsimp only [l_graph_reader_both]
 refine srun_sound 300 _ _ _ _ ?_
 repeat' simp -implicitDefEqProofs only [*,addFp_wr,zr,seval]
 refine gP k0.out 100001 1 [.f (.str t),.f (.int .i64 a)] [] [] ?_
 repeat' simp -implicitDefEqProofs only [*,addFp_wr,zr,seval]
 refine ax_loopU (S := Nat × QT × Nat) 14 [0,2,3] [2] (fun s => []) (fun s => [(100001,1,AObj.cells [.f (.str t),.f (.int .i64 s.2.2)]),(3,1,AObj.cells [.f (.int .i64 (qK s.2.1)),.f (.str (qT s.2.1)),.f (.int .i64 (qN s.2.1)),.f (.fr 4 (qP s.2.1))])]) (fun s => s.1 ≤ n ∧ s.2.2 ≤ t.size ∧ 3 * (t.size - s.2.2) + 1 ≤ s.1 ∧ pq s.1 (.bothL s.2.1) (t.data.toList.drop s.2.2) = none) (fun s => s.1) ((n,q0,a0)) [] ?_ ?_ fun s hs => ?_
 ·exact ⟨Nat.le_refl n,ha0,by dsimp only;omega,h⟩
 ·refine wk_i ?_ ?_ <;> simp only [zw,Nat.reduceEqDiff,Nat.reduceBEq,Nat.reduceLT,Nat.reduceLeDiff,reduceIte,reduceCtorEq]
 obtain ⟨m,q,c⟩ := s
 obtain ⟨hm,hc,hbd2,hq⟩ := hs
 dsimp only at hm hc hq hbd2 ⊢
 cases m with
 | zero => omega
 | succ m =>
  have hq' : (if wrd (t.data.toList.drop c) = [38] then (pq m .one (rst (t.data.toList.drop c))).bind fun x => pq m (.bothL (.mk 10 nil0 0 [q,x.1])) x.2 else some (q,skp (t.data.toList.drop c))) = none := hq
  clear hq
  by_cases hw : wrd (t.data.toList.drop c) = [38]
  ·rw [if_pos hw,← drop_nx] at hq'
   have kT := kTake ht hc hw
   have hp := (nxP_le t c hc).2
   have hlt := nxP_lt t c hc hw
   unfold RD at kT
   generalize nxP t c = c1 at *
   replace kT := hide kT
   cases h3 : pq m .one (t.data.toList.drop c1) with
   | none =>
    have kO := (ih.out m (by omega)).one c1 hp (by omega) h3
    clear hq' h3 hw
    refine srun_sound 300 _ _ _ _ ?_
    repeat' simp -implicitDefEqProofs only [*,addFp_wr,zr,seval]
    refine gPm (m := 0) kT.out 100001 1 [.f (.str t),.f (.int .i64 c)] [] [.f (.str ⟨#[38]⟩)] ?_
    refine ax_opsNil (ax_cond (b := true) rfl (fun _ => ax_skip (ax_block (ax_pdraw ?_))) (fun h => by cases h))
    exact ⟨rfl,.inl ⟨8,_,rfl,rfl,rfl,.inl ⟨9,_,rfl,rfl,rfl,.inr ⟨_,_,_,rfl,rfl,panRd kO rfl,rfl⟩⟩⟩⟩
   | some x =>
    obtain ⟨q2,l2⟩ := x
    rw [h3] at hq'
    replace hq' : pq m (.bothL (.mk 10 nil0 0 [q,q2])) l2 = none := hq'
    obtain ⟨c2,hc2,hcc,rfl⟩ := suf_at hp (pq_suf m _ _ _ _ h3)
    have k2 := (rdc t ht m).one _ hp c2 hc2 q2 h3
    rw [rcQ_eq] at k2
    unfold RD at k2
    clear hw h3
    replace hq' := hide hq'
    replace k2 := hide k2
    refine srun_sound 300 _ _ _ _ ?_
    repeat' simp -implicitDefEqProofs only [*,addFp_wr,zr,seval]
    refine gP kT.out 100001 1 [.f (.str t),.f (.int .i64 c)] [] [.f (.str ⟨#[38]⟩)] ?_
    repeat' simp -implicitDefEqProofs only [*,addFp_wr,zr,seval]
    refine gDq k2.out 100001 1 [.f (.str t),.f (.int .i64 c1)] [] [] ?_
    repeat' simp -implicitDefEqProofs only [*,addFp_wr,zr,seval]
    refine ⟨(m,.mk 10 nil0 0 [q,q2],c2),⟨by dsimp only;omega,hc2,by dsimp only;omega,hq'.out⟩,Nat.lt_succ_self m,?_⟩
    simp only [mkK,mkT,mkN,mkP2,nil0]
    refine wk_i ?_ ?_ <;> simp only [so_ff',cellsOf_some,zw,Nat.reduceEqDiff,Nat.reduceBEq,Nat.reduceLT,Nat.reduceLeDiff,reduceIte,reduceCtorEq]
    exact so_q2 rfl rfl
  ·rw [if_neg hw] at hq';cases hq'
set_option maxHeartbeats 8000000 in
theorem sum_p (t : ByteArray) (ht : (t.size : Int) ≤ 140737488355328) (n : Nat) (ih : ∀ m ≤ n,PdC t m) : PdF t (n + 1) 3 .sum 19 := by
 intro a ha hbd h
 replace h : (pq n .both (t.data.toList.drop a)).bind (fun x => pq n (.sumL x.1) x.2) = none := h
 cases h1 : pq n .both (t.data.toList.drop a) with
 | none =>
  have k0 := (ih n (Nat.le_refl n)).both a ha (by omega) h1
  clear h h1 ih
  unfold RD at *
  replace k0 := hide k0
  refine PCall.of_ax low_graph_reader_sum ?_
  dsimp only [l_graph_reader_sum]
  refine srun_sound 300 _ _ _ _ ?_
  repeat' simp -implicitDefEqProofs only [*,addFp_wr,zr,seval]
  exact gPan k0.out 100001 1 [.f (.str t),.f (.int .i64 a)] [] []
 | some x =>
 obtain ⟨q0,l0⟩ := x
 rw [h1] at h
 replace h : pq n (.sumL q0) l0 = none := h
 obtain ⟨a0,ha0,haa,rfl⟩ := suf_at ha (pq_suf n _ _ _ _ h1)
 have k0 := (rdc t ht n).both a ha a0 ha0 q0 h1
 clear h1
 replace ih := hide ih
 rw [rcQ_eq] at k0
 unfold RD at k0 ⊢
 replace k0 := hide k0
 refine PCall.of_ax low_graph_reader_sum ?_
 dsimp only [l_graph_reader_sum]
 refine srun_sound 300 _ _ _ _ ?_
 repeat' simp -implicitDefEqProofs only [*,addFp_wr,zr,seval]
 refine gP k0.out 100001 1 [.f (.str t),.f (.int .i64 a)] [] [] ?_
 repeat' simp -implicitDefEqProofs only [*,addFp_wr,zr,seval]
 refine ax_loopU (S := Nat × QT × Nat) 23 [0,2,3] [2] (fun s => []) (fun s => [(100001,1,AObj.cells [.f (.str t),.f (.int .i64 s.2.2)]),(3,1,AObj.cells [.f (.int .i64 (qK s.2.1)),.f (.str (qT s.2.1)),.f (.int .i64 (qN s.2.1)),.f (.fr 4 (qP s.2.1))])]) (fun s => s.1 ≤ n ∧ s.2.2 ≤ t.size ∧ 3 * (t.size - s.2.2) + 2 ≤ s.1 ∧ pq s.1 (.sumL s.2.1) (t.data.toList.drop s.2.2) = none) (fun s => s.1) ((n,q0,a0)) [] ?_ ?_ fun s hs => ?_
 ·exact ⟨Nat.le_refl n,ha0,by dsimp only;omega,h⟩
 ·refine wk_i ?_ ?_ <;> simp only [zw,Nat.reduceEqDiff,Nat.reduceBEq,Nat.reduceLT,Nat.reduceLeDiff,reduceIte,reduceCtorEq]
 obtain ⟨m,q,c⟩ := s
 obtain ⟨hm,hc,hbd2,hq⟩ := hs
 dsimp only at hm hc hq hbd2 ⊢
 cases m with
 | zero => omega
 | succ m =>
  have hq' : (if wrd (t.data.toList.drop c) = [43] then (pq m .both (rst (t.data.toList.drop c))).bind fun x => pq m (.sumL (.mk 8 nil0 0 [q,x.1])) x.2 else if wrd (t.data.toList.drop c) = [45] then (pq m .both (rst (t.data.toList.drop c))).bind fun x => pq m (.sumL (.mk 9 nil0 0 [q,x.1])) x.2 else some (q,skp (t.data.toList.drop c))) = none := hq
  clear hq
  by_cases hw : wrd (t.data.toList.drop c) = [43]
  ·skip
   rw [if_pos hw,← drop_nx] at hq'
   have hp := (nxP_le t c hc).2
   have hlt := nxP_lt t c hc hw
   have kT := kTake ht hc hw
   unfold RD at kT
   generalize nxP t c = c1 at *
   replace kT := hide kT
   cases h3 : pq m .both (t.data.toList.drop c1) with
   | none =>
    have kO := (ih.out m (by omega)).both c1 hp (by omega) h3
    clear hq' h3 hw
    refine srun_sound 300 _ _ _ _ ?_
    repeat' simp -implicitDefEqProofs only [*,addFp_wr,zr,seval]
    refine gPm (m := 2) kT.out 100001 1 [.f (.str t),.f (.int .i64 c)] [] [.f (.str ⟨#[43]⟩)] ?_
    refine ax_cond (b := true) rfl (fun _ => ax_pdraw ?_) (fun h => by cases h)
    exact ⟨rfl,.inl ⟨10,_,rfl,rfl,rfl,.inl ⟨11,_,rfl,rfl,rfl,.inr ⟨_,_,_,rfl,rfl,panRd kO rfl,rfl⟩⟩⟩⟩
   | some x =>
    obtain ⟨q2,l2⟩ := x
    rw [h3] at hq'
    replace hq' : pq m (.sumL (.mk 8 nil0 0 [q,q2])) l2 = none := hq'
    obtain ⟨c2,hc2,hcc,rfl⟩ := suf_at hp (pq_suf m _ _ _ _ h3)
    have k2 := (rdc t ht m).both _ hp c2 hc2 q2 h3
    rw [rcQ_eq] at k2
    unfold RD at k2
    clear hw h3
    replace hq' := hide hq'
    replace k2 := hide k2
    refine srun_sound 300 _ _ _ _ ?_
    repeat' simp -implicitDefEqProofs only [*,addFp_wr,zr,seval]
    refine gP kT.out 100001 1 [.f (.str t),.f (.int .i64 c)] [] [.f (.str ⟨#[43]⟩)] ?_
    repeat' simp -implicitDefEqProofs only [*,addFp_wr,zr,seval]
    refine gDq k2.out 100001 1 [.f (.str t),.f (.int .i64 c1)] [] [] ?_
    repeat' simp -implicitDefEqProofs only [*,addFp_wr,zr,seval]
    refine ⟨(m,.mk 8 nil0 0 [q,q2],c2),⟨by dsimp only;omega,hc2,by dsimp only;omega,hq'.out⟩,Nat.lt_succ_self m,?_⟩
    simp only [mkK,mkT,mkN,mkP2,nil0]
    refine wk_i ?_ ?_ <;> simp only [so_ff',cellsOf_some,zw,Nat.reduceEqDiff,Nat.reduceBEq,Nat.reduceLT,Nat.reduceLeDiff,reduceIte,reduceCtorEq]
    exact so_q2 rfl rfl
  rw [if_neg hw] at hq'
  have hw0 := hw
  clear hw
  by_cases hw : wrd (t.data.toList.drop c) = [45]
  ·skip
   rw [if_pos hw,← drop_nx] at hq'
   have hp := (nxP_le t c hc).2
   have hlt := nxP_lt t c hc hw
   have kT0 := kTakeN ht hc hw0
   have kT := kTake ht (spN_le t c hc) (c := 45) (by rw [drop_sp,wrd_skp];exact hw)
   rw [nxP_sp t c hc] at kT
   unfold RD at kT kT0
   generalize nxP t c = c1 at *
   generalize spN t c = c0 at *
   replace kT0 := hide kT0
   replace kT := hide kT
   cases h3 : pq m .both (t.data.toList.drop c1) with
   | none =>
    have kO := (ih.out m (by omega)).both c1 hp (by omega) h3
    clear hq' h3 hw hw0
    refine srun_sound 300 _ _ _ _ ?_
    repeat' simp -implicitDefEqProofs only [*,addFp_wr,zr,seval]
    refine gP kT0.out 100001 1 [.f (.str t),.f (.int .i64 c)] [] [.f (.str ⟨#[43]⟩)] ?_
    repeat' simp -implicitDefEqProofs only [*,addFp_wr,zr,seval]
    refine gPm (m := 2) kT.out 100001 1 [.f (.str t),.f (.int .i64 c0)] [] [.f (.str ⟨#[45]⟩)] ?_
    refine ax_cond (b := true) rfl (fun _ => ax_pdraw ?_) (fun h => by cases h)
    exact ⟨rfl,.inl ⟨18,_,rfl,rfl,rfl,.inl ⟨19,_,rfl,rfl,rfl,.inr ⟨_,_,_,rfl,rfl,panRd kO rfl,rfl⟩⟩⟩⟩
   | some x =>
    obtain ⟨q2,l2⟩ := x
    rw [h3] at hq'
    replace hq' : pq m (.sumL (.mk 9 nil0 0 [q,q2])) l2 = none := hq'
    obtain ⟨c2,hc2,hcc,rfl⟩ := suf_at hp (pq_suf m _ _ _ _ h3)
    have k2 := (rdc t ht m).both _ hp c2 hc2 q2 h3
    rw [rcQ_eq] at k2
    unfold RD at k2
    clear hw h3 hw0
    replace hq' := hide hq'
    replace k2 := hide k2
    refine srun_sound 300 _ _ _ _ ?_
    repeat' simp -implicitDefEqProofs only [*,addFp_wr,zr,seval]
    refine gP kT0.out 100001 1 [.f (.str t),.f (.int .i64 c)] [] [.f (.str ⟨#[43]⟩)] ?_
    repeat' simp -implicitDefEqProofs only [*,addFp_wr,zr,seval]
    refine gP kT.out 100001 1 [.f (.str t),.f (.int .i64 c0)] [] [.f (.str ⟨#[45]⟩)] ?_
    repeat' simp -implicitDefEqProofs only [*,addFp_wr,zr,seval]
    refine gDq k2.out 100001 1 [.f (.str t),.f (.int .i64 c1)] [] [] ?_
    repeat' simp -implicitDefEqProofs only [*,addFp_wr,zr,seval]
    refine ⟨(m,.mk 9 nil0 0 [q,q2],c2),⟨by dsimp only;omega,hc2,by dsimp only;omega,hq'.out⟩,Nat.lt_succ_self m,?_⟩
    simp only [mkK,mkT,mkN,mkP2,nil0]
    refine wk_i ?_ ?_ <;> simp only [so_ff',cellsOf_some,zw,Nat.reduceEqDiff,Nat.reduceBEq,Nat.reduceLT,Nat.reduceLeDiff,reduceIte,reduceCtorEq]
    exact so_q2 rfl rfl
  ·rw [if_neg hw] at hq';cases hq'
end Go.Proofs.YtagkdifaldikgaaGreatDoor
