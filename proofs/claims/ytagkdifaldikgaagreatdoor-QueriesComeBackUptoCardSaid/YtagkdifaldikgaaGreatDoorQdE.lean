/-
  The reader's steps where nothing is wrong. No statement of the seat is proved here; no conditions.
-/
import Derived.Test.YtagkdifaldikgaaGreatDoorQdC
import Derived.Tactics
import Derived.Tactics2
import Derived.Recover
import Derived.WalkSmall
namespace Go.Proofs.YtagkdifaldikgaaGreatDoor
open Go.RowKit Go.Shelf
set_option linter.unusedVariables false
set_option linter.unusedSimpArgs false
set_option maxRecDepth 100000

theorem tokN_le (l : List UInt8) : tokN l ≤ l.length := by
 unfold tokN
 split
 ·exact Nat.le_refl _
 ·rename_i c r
  split
  ·exact (List.takeWhile_sublist _).length_le
  ·split
   ·exact (List.takeWhile_sublist _).length_le
   ·split
    ·exact (List.takeWhile_sublist _).length_le
    ·simp
def nxP (t : ByteArray) (a : Nat) : Nat := nxE t (spN t a)
theorem nxP_le (t : ByteArray) (a : Nat) (h : a ≤ t.size) : spN t a ≤ nxP t a ∧ nxP t a ≤ t.size := by
 have h1 := spN_le t a h
 have h2 := tokN_le (t.data.toList.drop (spN t a))
 have h3 : t.data.toList.length = t.size := by simp
 rw [List.length_drop,h3] at h2
 unfold nxP nxE
 omega
theorem nxW_size (t : ByteArray) (a : Nat) (h : a ≤ t.size) : (nxW t a).size = nxP t a - spN t a := by
 have := nxP_le t a h
 show (t.extract (spN t a) (nxP t a)).size = _
 rw [ByteArray.size_extract];omega
theorem drop_skp : ∀ l : List UInt8,l.drop (l.takeWhile fun c => decide (c = 32)).length = skp l
 | [] => rfl
 | c :: l => by
  by_cases h : c = 32
  ·subst h
   rw [skp_sp,List.takeWhile_cons]
   simpa using drop_skp l
  ·rw [skp_ne h,List.takeWhile_cons]
   simp [h]
theorem drop_sp (t : ByteArray) (a : Nat) : t.data.toList.drop (spN t a) = skp (t.data.toList.drop a) := by
 rw [← drop_skp,List.drop_drop];rfl
theorem drop_nx (t : ByteArray) (a : Nat) : t.data.toList.drop (nxP t a) = rst (t.data.toList.drop a) := by
 unfold nxP nxE rst
 rw [← drop_sp,List.drop_drop]
theorem nxW_wrd (t : ByteArray) (a : Nat) : (nxW t a).data.toList = wrd (t.data.toList.drop a) := by
 unfold nxW wrd
 rw [← drop_sp,ByteArray.data_extract,Array.toList_extract]
 simp only [List.extract]
 congr 1
 unfold nxE
 omega
theorem nxW_toB (t : ByteArray) (a : Nat) : nxW t a = toB (wrd (t.data.toList.drop a)) := bytes_ext (nxW_wrd t a)
theorem nxP_sp (t : ByteArray) (a : Nat) (ha : a ≤ t.size) : nxP t (spN t a) = nxP t a := by
 have h1 := drop_nx t (spN t a)
 have h2 := drop_nx t a
 rw [drop_sp,rst_skp] at h1
 rw [← h2] at h1
 have h3 := nxP_le t a ha
 have h4 := nxP_le t (spN t a) (spN_le t a ha)
 have h5 := congrArg List.length h1
 have h6 : t.data.toList.length = t.size := by simp
 rw [List.length_drop,List.length_drop,h6] at h5
 omega
abbrev RD (t : ByteArray) (a : Nat) : List RC := [.v (.str t),.v (.int .i64 a)]
theorem pass_f (t : ByteArray) (a : Nat) (ha : a ≤ t.size) (ht : (t.size : Int) ≤ 140737488355328) : FRetP Tryz.prog 42 (RD t a) [] [] (RD t (nxP t a)) [] := by
 have k := next_f t a ha ht
 have h1 := nxP_le t a ha
 have h2 := nxW_size t a ha
 have h3 : IntKind.i64.wrap ((spN t a : Nat) + ((nxW t a).size : Int)) = ((nxP t a : Nat) : Int) := by rw [h2,wrap64] <;> omega
 have h4 := spN_le t a ha
 unfold RD
 generalize nxP t a = e at *
 generalize nxW t a = w at *
 generalize spN t a = b at *
 replace h2 := hide h2
 replace k := hide k
 refine FCall.of_ax low_graph_reader_pass ?_
 dsimp only [l_graph_reader_pass]
 refine srun_sound 300 _ _ _ _ ?_
 repeat' (first
  | (simp -implicitDefEqProofs only [*,addFp_wr,zr,Nat.reduceAdd,Nat.reduceSub,Nat.reduceMul,Nat.reduceLT,Nat.reduceLeDiff,Nat.reduceEqDiff,Nat.reduceBEq,reduceIte,reduceCtorEq,Int.reduceLE,Int.reduceLT,Int.reduceToNat,Int.reduceEq,Int.reduceNe])
  | ((first|apply zk0|apply zk1|apply zk2|apply zk3|apply zk4|apply zk5|apply zk6|apply zk7|apply zk8|apply zk9) <;> intro hc)
  |(refine callP0 rfl ?_)
  |(refine callD0 rfl ?_)
  | fail)
 refine gP k.out 100001 1 [.f (.str t),.f (.int .i64 a)] [] [] ?_
 repeat' (first
  | (simp -implicitDefEqProofs only [*,addFp_wr,zr,Nat.reduceAdd,Nat.reduceSub,Nat.reduceMul,Nat.reduceLT,Nat.reduceLeDiff,Nat.reduceEqDiff,Nat.reduceBEq,reduceIte,reduceCtorEq,Int.reduceLE,Int.reduceLT,Int.reduceToNat,Int.reduceEq,Int.reduceNe])
  | ((first|apply zk0|apply zk1|apply zk2|apply zk3|apply zk4|apply zk5|apply zk6|apply zk7|apply zk8|apply zk9) <;> intro hc)
  |(refine callP0 rfl ?_)
  |(refine callD0 rfl ?_)
  | fail)
 exact ⟨[],[.f (.str t),.f (.int .i64 e)],rfl,rfl,⟨rfl,rfl,rfl⟩,rfl,by simp [idsC,idsS],by simp [idsC,idsS]⟩
theorem take_f (t s : ByteArray) (a : Nat) (ha : a ≤ t.size) (ht : (t.size : Int) ≤ 140737488355328) :
  FRetP Tryz.prog 28 (RD t a) [] [.f (.str s)] (RD t (if nxW t a = s then nxP t a else spN t a)) [.c (.v (.bool (decide (nxW t a = s))))] := by
 have k := next_f t a ha ht
 have k2 := pass_f t (spN t a) (spN_le t a ha) ht
 rw [nxP_sp t a ha] at k2
 unfold RD at *
 generalize nxP t a = e at *
 generalize nxW t a = w at *
 generalize spN t a = b at *
 replace k := hide k
 replace k2 := hide k2
 by_cases hw : w = s
 ·rw [if_pos hw,decide_eq_true hw]
  have d1 : decide (w = s) = true := decide_eq_true hw
  clear hw ht
  refine FCall.of_ax low_graph_reader_take ?_
  dsimp only [l_graph_reader_take]
  refine srun_sound 300 _ _ _ _ ?_
  repeat' (first
   | (simp -implicitDefEqProofs only [*,addFp_wr,zr,Nat.reduceAdd,Nat.reduceSub,Nat.reduceMul,Nat.reduceLT,Nat.reduceLeDiff,Nat.reduceEqDiff,Nat.reduceBEq,reduceIte,reduceCtorEq,Int.reduceLE,Int.reduceLT,Int.reduceToNat,Int.reduceEq,Int.reduceNe])
   | ((first|apply zk0|apply zk1|apply zk2|apply zk3|apply zk4|apply zk5|apply zk6|apply zk7|apply zk8|apply zk9) <;> intro hc)
   |(refine callP0 rfl ?_)
   |(refine callD0 rfl ?_)
   | fail)
  refine gP k.out 100001 1 [.f (.str t),.f (.int .i64 a)] [] [] ?_
  repeat' (first
   | (simp -implicitDefEqProofs only [*,addFp_wr,zr,Nat.reduceAdd,Nat.reduceSub,Nat.reduceMul,Nat.reduceLT,Nat.reduceLeDiff,Nat.reduceEqDiff,Nat.reduceBEq,reduceIte,reduceCtorEq,Int.reduceLE,Int.reduceLT,Int.reduceToNat,Int.reduceEq,Int.reduceNe])
   | ((first|apply zk0|apply zk1|apply zk2|apply zk3|apply zk4|apply zk5|apply zk6|apply zk7|apply zk8|apply zk9) <;> intro hc)
   |(refine callP0 rfl ?_)
   |(refine callD0 rfl ?_)
   | fail)
  refine gP k2.out 100001 1 [.f (.str t),.f (.int .i64 b)] [] [] ?_
  repeat' (first
   | (simp -implicitDefEqProofs only [*,addFp_wr,zr,Nat.reduceAdd,Nat.reduceSub,Nat.reduceMul,Nat.reduceLT,Nat.reduceLeDiff,Nat.reduceEqDiff,Nat.reduceBEq,reduceIte,reduceCtorEq,Int.reduceLE,Int.reduceLT,Int.reduceToNat,Int.reduceEq,Int.reduceNe])
   | ((first|apply zk0|apply zk1|apply zk2|apply zk3|apply zk4|apply zk5|apply zk6|apply zk7|apply zk8|apply zk9) <;> intro hc)
   |(refine callP0 rfl ?_)
   |(refine callD0 rfl ?_)
   | fail)
  exact ⟨[.f (.bool true)],[.f (.str t),.f (.int .i64 _)],rfl,rfl,⟨rfl,rfl,rfl⟩,⟨rfl,rfl⟩,by simp [idsC,idsS],by simp [idsC,idsS]⟩
 ·rw [if_neg hw,decide_eq_false hw]
  have d1 : decide (w = s) = false := decide_eq_false hw
  clear hw ht
  refine FCall.of_ax low_graph_reader_take ?_
  dsimp only [l_graph_reader_take]
  refine srun_sound 300 _ _ _ _ ?_
  repeat' (first
   | (simp -implicitDefEqProofs only [*,addFp_wr,zr,Nat.reduceAdd,Nat.reduceSub,Nat.reduceMul,Nat.reduceLT,Nat.reduceLeDiff,Nat.reduceEqDiff,Nat.reduceBEq,reduceIte,reduceCtorEq,Int.reduceLE,Int.reduceLT,Int.reduceToNat,Int.reduceEq,Int.reduceNe])
   | ((first|apply zk0|apply zk1|apply zk2|apply zk3|apply zk4|apply zk5|apply zk6|apply zk7|apply zk8|apply zk9) <;> intro hc)
   |(refine callP0 rfl ?_)
   |(refine callD0 rfl ?_)
   | fail)
  refine gP k.out 100001 1 [.f (.str t),.f (.int .i64 a)] [] [] ?_
  repeat' (first
   | (simp -implicitDefEqProofs only [*,addFp_wr,zr,Nat.reduceAdd,Nat.reduceSub,Nat.reduceMul,Nat.reduceLT,Nat.reduceLeDiff,Nat.reduceEqDiff,Nat.reduceBEq,reduceIte,reduceCtorEq,Int.reduceLE,Int.reduceLT,Int.reduceToNat,Int.reduceEq,Int.reduceNe])
   | ((first|apply zk0|apply zk1|apply zk2|apply zk3|apply zk4|apply zk5|apply zk6|apply zk7|apply zk8|apply zk9) <;> intro hc)
   |(refine callP0 rfl ?_)
   |(refine callD0 rfl ?_)
   | fail)
  exact ⟨[.f (.bool false)],[.f (.str t),.f (.int .i64 _)],rfl,rfl,⟨rfl,rfl,rfl⟩,⟨rfl,rfl⟩,by simp [idsC,idsS],by simp [idsC,idsS]⟩
theorem must_f (t s : ByteArray) (a : Nat) (ha : a ≤ t.size) (ht : (t.size : Int) ≤ 140737488355328) (hw : nxW t a = s) :
  FRetP Tryz.prog 61 (RD t a) [] [.f (.str s)] (RD t (nxP t a)) [] := by
 have k := take_f t s a ha ht
 rw [if_pos hw,decide_eq_true hw] at k
 unfold RD at *
 generalize nxP t a = e at *
 clear hw
 replace k := hide k
 refine FCall.of_ax low_graph_reader_must ?_
 dsimp only [l_graph_reader_must]
 refine srun_sound 300 _ _ _ _ ?_
 repeat' (first
  | (simp -implicitDefEqProofs only [*,addFp_wr,zr,Nat.reduceAdd,Nat.reduceSub,Nat.reduceMul,Nat.reduceLT,Nat.reduceLeDiff,Nat.reduceEqDiff,Nat.reduceBEq,reduceIte,reduceCtorEq,Int.reduceLE,Int.reduceLT,Int.reduceToNat,Int.reduceEq,Int.reduceNe])
  | ((first|apply zk0|apply zk1|apply zk2|apply zk3|apply zk4|apply zk5|apply zk6|apply zk7|apply zk8|apply zk9) <;> intro hc)
  |(refine callP0 rfl ?_)
  |(refine callD0 rfl ?_)
  | fail)
 refine gP k.out 100001 1 [.f (.str t),.f (.int .i64 a)] [] [.f (.str s)] ?_
 repeat' (first
  | (simp -implicitDefEqProofs only [*,addFp_wr,zr,Nat.reduceAdd,Nat.reduceSub,Nat.reduceMul,Nat.reduceLT,Nat.reduceLeDiff,Nat.reduceEqDiff,Nat.reduceBEq,reduceIte,reduceCtorEq,Int.reduceLE,Int.reduceLT,Int.reduceToNat,Int.reduceEq,Int.reduceNe])
  | ((first|apply zk0|apply zk1|apply zk2|apply zk3|apply zk4|apply zk5|apply zk6|apply zk7|apply zk8|apply zk9) <;> intro hc)
  |(refine callP0 rfl ?_)
  |(refine callD0 rfl ?_)
  | fail)
 exact ⟨[],[.f (.str t),.f (.int .i64 e)],rfl,rfl,⟨rfl,rfl,rfl⟩,rfl,by simp [idsC,idsS],by simp [idsC,idsS]⟩
theorem some_f (t : ByteArray) (a n : Nat) (ha : a ≤ t.size) (ht : (t.size : Int) ≤ 140737488355328) (hf : FRet Tryz.prog n [.f (.str (nxW t a))] [.c (.v (.bool true))]) :
  FRetP Tryz.prog 63 (RD t a) [] [.f (.fn (.func n))] (RD t (nxP t a)) [.c (.v (.str (nxW t a)))] := by
 have k := next_f t a ha ht
 have k2 := pass_f t (spN t a) (spN_le t a ha) ht
 rw [nxP_sp t a ha] at k2
 unfold RD at *
 generalize nxP t a = e at *
 generalize nxW t a = w at *
 generalize spN t a = b at *
 replace k := hide k
 replace k2 := hide k2
 refine FCall.of_ax low_graph_reader_some ?_
 dsimp only [l_graph_reader_some]
 refine srun_sound 300 _ _ _ _ ?_
 repeat' (first
  | (simp -implicitDefEqProofs only [*,addFp_wr,zr,Nat.reduceAdd,Nat.reduceSub,Nat.reduceMul,Nat.reduceLT,Nat.reduceLeDiff,Nat.reduceEqDiff,Nat.reduceBEq,reduceIte,reduceCtorEq,Int.reduceLE,Int.reduceLT,Int.reduceToNat,Int.reduceEq,Int.reduceNe])
  | ((first|apply zk0|apply zk1|apply zk2|apply zk3|apply zk4|apply zk5|apply zk6|apply zk7|apply zk8|apply zk9) <;> intro hc)
  |(refine callP0 rfl ?_)
  |(refine callD0 rfl ?_)
  | fail)
 refine gP k.out 100001 1 [.f (.str t),.f (.int .i64 a)] [] [] ?_
 repeat' (first
  | (simp -implicitDefEqProofs only [*,addFp_wr,zr,Nat.reduceAdd,Nat.reduceSub,Nat.reduceMul,Nat.reduceLT,Nat.reduceLeDiff,Nat.reduceEqDiff,Nat.reduceBEq,reduceIte,reduceCtorEq,Int.reduceLE,Int.reduceLT,Int.reduceToNat,Int.reduceEq,Int.reduceNe])
  | ((first|apply zk0|apply zk1|apply zk2|apply zk3|apply zk4|apply zk5|apply zk6|apply zk7|apply zk8|apply zk9) <;> intro hc)
  |(refine callP0 rfl ?_)
  |(refine callD0 rfl ?_)
  |(refine cP (hf) ?_)
  |(refine cD (hf) ?_)
  |(refine cF (hf) ?_)
  | fail)
 refine gP k2.out 100001 1 [.f (.str t),.f (.int .i64 b)] [] [] ?_
 repeat' (first
  | (simp -implicitDefEqProofs only [*,addFp_wr,zr,Nat.reduceAdd,Nat.reduceSub,Nat.reduceMul,Nat.reduceLT,Nat.reduceLeDiff,Nat.reduceEqDiff,Nat.reduceBEq,reduceIte,reduceCtorEq,Int.reduceLE,Int.reduceLT,Int.reduceToNat,Int.reduceEq,Int.reduceNe])
  | ((first|apply zk0|apply zk1|apply zk2|apply zk3|apply zk4|apply zk5|apply zk6|apply zk7|apply zk8|apply zk9) <;> intro hc)
  |(refine callP0 rfl ?_)
  |(refine callD0 rfl ?_)
  | fail)
 exact ⟨[.f (.str w)],[.f (.str t),.f (.int .i64 e)],rfl,rfl,⟨rfl,rfl,rfl⟩,⟨rfl,rfl⟩,by simp [idsC,idsS],by simp [idsC,idsS]⟩
end Go.Proofs.YtagkdifaldikgaaGreatDoor
namespace Go.Proofs.YtagkdifaldikgaaGreatDoor
open Go.RowKit Go.Shelf
set_option linter.unusedVariables false
set_option linter.unusedSimpArgs false
set_option maxRecDepth 100000

def IsW (v : Value) : Prop := ∃ n : Int,v = .iface 51 (.agg #[.int .i64 n])
theorem next_w (t : ByteArray) (a : Nat) (ha : a ≤ t.size) (ht : (t.size : Int) ≤ 140737488355328) (G : Ghost) (Z : Nat → Prop) (w : World) (v0 : Value)
  (st : St Tryz.prog G (upd (putHs 80000 (nextCs 0 (RD t a)) [] (putHcs 80000 0 (RD t a) H0)) 100001 (1,some (.cells (putCs 80000 0 (RD t a))))) Z w) (h0 : RepA G Z w (.ptr 100001 1 0) v0) :
  Calls Tryz.prog 20 #[v0] w fun e w' => e = .returned (.tuple #[.string (nxW t a),.int .i64 (spN t a : Nat)]) ∧ HistW G Z w w' := by
 refine ((next_f t a ha ht).2 G Z w #[v0] st rfl fun j x v hx hv => ?_).mono fun e w' ⟨v,r,H',G',Z',e1,⟨l,cs',e2,_,_,hr,_⟩,st',hh,hrep⟩ => ?_
 ·cases j with
  | zero => simp only [List.getElem?_cons_zero,Option.some.injEq] at hx hv;subst hx;simp at hv;subst hv;exact h0
  | succ j => simp at hv
 ·match l,hr with
  | [x,y],⟨h1,h2,_⟩ =>
   obtain rfl : x = .f (.str (nxW t a)) := h1
   obtain rfl : y = .f (.int .i64 (spN t a : Nat)) := h2
   subst e1 e2
   cases hrep with
   | tup _ us hsz hr =>
    obtain ⟨v0,v1,rfl,r0,r1⟩ := args2 hsz hr
    obtain rfl := r0.str_
    obtain rfl := r1.int_
    exact ⟨rfl,hh.wide⟩
theorem fail_f (t : ByteArray) (a : Nat) (ha : a ≤ t.size) (ht : (t.size : Int) ≤ 140737488355328) : FPanP Tryz.prog 21 (RD t a) [] [] IsW := by
 refine ⟨by kernel_rfl,fun G Z w vs st hsz hrep => ?_⟩
 obtain ⟨v0,rfl⟩ : ∃ v0,vs = #[v0] := by
  obtain ⟨l⟩ := vs
  match l,hsz with
  | [v0],_ => exact ⟨v0,rfl⟩
 have hn := next_w t a ha ht G Z w v0 st (hrep 0 _ v0 rfl rfl)
 generalize nxW t a = x at *
 generalize spN t a = b at *
 clear st hrep hsz
 go_enter Tryz.func21,Tryz.ntmps21
 go_wp2_with fail
 refine hn.mono ?_
 rintro e w' ⟨rfl,hh⟩
 go_wp2_with fail
 exact ⟨rfl,_,rfl,⟨_,rfl⟩,hh⟩
section
variable {P : Program} {Λ : Lams} {k : List It} {env : Env} {H : Heap} {V : Value → Prop}
theorem gPan {fid : FuncId} {pcs : List RC} {ri : List RS} {tl : List AV} (hF : FPanP P fid pcs ri tl V) (id ver : Nat) (cs l tl0 : List AV) {d : Option Nat} {f : Operand} {args : List Operand} {g : Option (Nat × Bool)} {los : List LO}
  (hg : gd g env = some true := by rfl) (hfn : evA env f = .f (.fn (.func fid)) := by rfl) (ha : args.map (evA env) = .ptr id ver 0 :: (l ++ tl0) := by rfl) (hc : cellsOf ver (H id) = some cs := by rfl)
  (hpc : RcsOk H pcs cs := by (repeat (first|exact rfl | exact trivial | refine And.intro rfl ?_));first | done | fail) (hri : RsOk H ri l := by (repeat (first|exact rfl | exact trivial | refine And.intro rfl ?_));first | done | fail) (hnd : (idsC cs ++ idsS l).Nodup := by simp [idsC,idsS]) (hni : id ∉ idsC cs ++ idsS l := by simp [idsC,idsS]) (htl : LeL tl0 tl := by exact LeL.refl _) (hp : tl.all AV.pure = true := by rfl) : Ax P (panR V) Λ (.ops (⟨d,.call f args,g⟩ :: los) :: k) env H :=
 ax_pcall (f := f) (args := args) rfl hg hfn (by rw [ha];exact pcall_pm hF hc hpc hri hnd hni htl hp)
end
theorem must_p (t s : ByteArray) (a : Nat) (ha : a ≤ t.size) (ht : (t.size : Int) ≤ 140737488355328) (hw : nxW t a ≠ s) : FPanP Tryz.prog 61 (RD t a) [] [.f (.str s)] IsW := by
 have k := take_f t s a ha ht
 rw [if_neg hw,decide_eq_false hw] at k
 have k2 := fail_f t (spN t a) (spN_le t a ha) ht
 unfold RD at *
 generalize spN t a = e at *
 clear hw
 replace k := hide k
 replace k2 := hide k2
 refine PCall.of_ax low_graph_reader_must ?_
 dsimp only [l_graph_reader_must]
 refine srun_sound 300 _ _ _ _ ?_
 repeat' (first
  | (simp -implicitDefEqProofs only [*,addFp_wr,zr,Nat.reduceAdd,Nat.reduceSub,Nat.reduceMul,Nat.reduceLT,Nat.reduceLeDiff,Nat.reduceEqDiff,Nat.reduceBEq,reduceIte,reduceCtorEq,Int.reduceLE,Int.reduceLT,Int.reduceToNat,Int.reduceEq,Int.reduceNe])
  | ((first|apply zk0|apply zk1|apply zk2|apply zk3|apply zk4|apply zk5|apply zk6|apply zk7|apply zk8|apply zk9) <;> intro hc)
  |(refine callP0 rfl ?_)
  |(refine callD0 rfl ?_)
  | fail)
 refine gP k.out 100001 1 [.f (.str t),.f (.int .i64 a)] [] [.f (.str s)] ?_
 repeat' (first
  | (simp -implicitDefEqProofs only [*,addFp_wr,zr,Nat.reduceAdd,Nat.reduceSub,Nat.reduceMul,Nat.reduceLT,Nat.reduceLeDiff,Nat.reduceEqDiff,Nat.reduceBEq,reduceIte,reduceCtorEq,Int.reduceLE,Int.reduceLT,Int.reduceToNat,Int.reduceEq,Int.reduceNe])
  | ((first|apply zk0|apply zk1|apply zk2|apply zk3|apply zk4|apply zk5|apply zk6|apply zk7|apply zk8|apply zk9) <;> intro hc)
  |(refine callP0 rfl ?_)
  |(refine callD0 rfl ?_)
  | fail)
 exact gPan k2.out 100001 1 [.f (.str t),.f (.int .i64 e)] [] []
theorem some_p (t : ByteArray) (a n : Nat) (ha : a ≤ t.size) (ht : (t.size : Int) ≤ 140737488355328) (hf : FRet Tryz.prog n [.f (.str (nxW t a))] [.c (.v (.bool false))]) :
  FPanP Tryz.prog 63 (RD t a) [] [.f (.fn (.func n))] IsW := by
 have k := next_f t a ha ht
 have k2 := fail_f t (spN t a) (spN_le t a ha) ht
 unfold RD at *
 generalize nxW t a = w at *
 generalize spN t a = b at *
 replace k := hide k
 replace k2 := hide k2
 refine PCall.of_ax low_graph_reader_some ?_
 dsimp only [l_graph_reader_some]
 refine srun_sound 300 _ _ _ _ ?_
 repeat' (first
  | (simp -implicitDefEqProofs only [*,addFp_wr,zr,Nat.reduceAdd,Nat.reduceSub,Nat.reduceMul,Nat.reduceLT,Nat.reduceLeDiff,Nat.reduceEqDiff,Nat.reduceBEq,reduceIte,reduceCtorEq,Int.reduceLE,Int.reduceLT,Int.reduceToNat,Int.reduceEq,Int.reduceNe])
  | ((first|apply zk0|apply zk1|apply zk2|apply zk3|apply zk4|apply zk5|apply zk6|apply zk7|apply zk8|apply zk9) <;> intro hc)
  |(refine callP0 rfl ?_)
  |(refine callD0 rfl ?_)
  | fail)
 refine gP k.out 100001 1 [.f (.str t),.f (.int .i64 a)] [] [] ?_
 repeat' (first
  | (simp -implicitDefEqProofs only [*,addFp_wr,zr,Nat.reduceAdd,Nat.reduceSub,Nat.reduceMul,Nat.reduceLT,Nat.reduceLeDiff,Nat.reduceEqDiff,Nat.reduceBEq,reduceIte,reduceCtorEq,Int.reduceLE,Int.reduceLT,Int.reduceToNat,Int.reduceEq,Int.reduceNe])
  | ((first|apply zk0|apply zk1|apply zk2|apply zk3|apply zk4|apply zk5|apply zk6|apply zk7|apply zk8|apply zk9) <;> intro hc)
  |(refine callP0 rfl ?_)
  |(refine callD0 rfl ?_)
  |(refine cP (hf) ?_)
  |(refine cD (hf) ?_)
  |(refine cF (hf) ?_)
  | fail)
 exact gPan k2.out 100001 1 [.f (.str t),.f (.int .i64 b)] [] []
end Go.Proofs.YtagkdifaldikgaaGreatDoor
