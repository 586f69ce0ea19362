/-
  The reader's next word, itself. No statement of the seat is proved here; no conditions.
-/
import Derived.Test.YtagkdifaldikgaaGreatDoorLowH
namespace Go.Proofs.YtagkdifaldikgaaGreatDoor
open Go.RowKit Go.Shelf
set_option linter.unusedVariables false
set_option linter.unusedSimpArgs false
set_option maxRecDepth 100000

def spN (t : ByteArray) (a : Nat) : Nat := a + twN (fun c => decide (c = 32)) t a
def nxE (t : ByteArray) (e : Nat) : Nat := e + tokN (t.data.toList.drop e)
theorem spN_le (t : ByteArray) (a : Nat) (h : a ≤ t.size) : spN t a ≤ t.size := twN_le _ t a h
theorem nx_end {t : ByteArray} {e : Nat} (h : t.size ≤ e) : nxE t e = e := by
 unfold nxE
 rw [List.drop_eq_nil_of_le (by simpa using h)];rfl
theorem nx_eq {t : ByteArray} {e : Nat} {b : UInt8} (h : t.data.toList[e]? = some b) :
  nxE t e = e + (if b = 47 ∧ t.data.toList[e + 1]? = some 47 then twN isLb t e else if isDg b = true then twN isDg t e else if isSm b = true then twN isSm t e else 1) := by
 obtain ⟨h1,h2⟩ := List.getElem?_eq_some_iff.1 h
 unfold nxE twN
 rw [List.drop_eq_getElem_cons h1,h2,tokN,List.head?_drop]
theorem pre_two {t : ByteArray} {e : Nat} {b : UInt8} (h : t.data.toList[e]? = some b) : hasPre (t.extract e t.size) ⟨#[47,47]⟩ = decide (b = 47 ∧ t.data.toList[e + 1]? = some 47) := by
 obtain ⟨h1,h2⟩ := List.getElem?_eq_some_iff.1 h
 have hsz : t.data.toList.length = t.size := by simp
 have e1 : (t.extract e t.size).data.toList = t.data.toList.drop e := by
  rw [ByteArray.data_extract,Array.toList_extract]
  simp only [List.extract]
  exact List.take_of_length_le (by rw [List.length_drop];omega)
 have e2 : ((t.extract e t.size).extract 0 2).data.toList = (t.data.toList.drop e).take 2 := by
  rw [ByteArray.data_extract,Array.toList_extract,e1]
  simp [List.extract]
 have hs2 : (t.extract e t.size).size = t.size - e := by rw [ByteArray.size_extract];omega
 unfold hasPre
 rw [hs2]
 have hp : (⟨#[47,47]⟩ : ByteArray).size = 2 := rfl
 rw [hp]
 rw [← Bool.decide_and,decide_eq_decide]
 constructor
 ·rintro ⟨k1,k2⟩
  have k3 := congrArg (fun x : ByteArray => x.data.toList) k2
  simp only at k3
  rw [e2,List.drop_eq_getElem_cons h1,h2] at k3
  have k4 : e + 1 < t.data.toList.length := by omega
  rw [List.drop_eq_getElem_cons k4] at k3
  simp only [List.take_succ_cons,List.take_zero,List.cons.injEq,and_true] at k3
  exact ⟨k3.1,by rw [List.getElem?_eq_getElem k4,k3.2]⟩
 ·rintro ⟨rfl,k2⟩
  obtain ⟨k4,k5⟩ := List.getElem?_eq_some_iff.1 k2
  refine ⟨by omega,bytes_ext ?_⟩
  rw [e2,List.drop_eq_getElem_cons h1,h2,List.drop_eq_getElem_cons k4,k5]
  rfl
theorem eq_byte (b : UInt8) (n : UInt8) : decide ((b.toNat : Int) = n.toNat) = decide (b = n) := by
 rw [decide_eq_decide]
 exact ⟨fun h => UInt8.toNat_inj.1 (by omega),fun h => by rw [h]⟩
def nxW (t : ByteArray) (a : Nat) : ByteArray := t.extract (spN t a) (nxE t (spN t a))
theorem hasPreS_f (s p : ByteArray) : FRet Tryz.prog 31 [.f (.str s),.f (.str p)] [.c (.v (.bool (hasPre s p)))] := by
 refine FCall.of_ax low_strings_HasPrefix ?_
 dsimp only [l_strings_HasPrefix]
 refine srun_sound 300 _ _ _ _ ?_
 repeat' (first
  | (simp -implicitDefEqProofs only [*,zr,Nat.reduceAdd,Nat.reduceSub,Nat.reduceMul,Nat.reduceLT,Nat.reduceLeDiff,Nat.reduceEqDiff,Nat.reduceBEq,reduceIte,reduceCtorEq,Int.reduceLE,Int.reduceLT,Int.reduceToNat,Int.reduceEq,Int.reduceNe])
  | ((first|apply zk0|apply zk1|apply zk2|apply zk3|apply zk4|apply zk5|apply zk6|apply zk7|apply zk8|apply zk9) <;> intro hc)
  |(refine callP0 rfl ?_)
  |(refine callD0 rfl ?_)
  |(refine cP (hasPre_f s p) ?_)
  |(refine cD (hasPre_f s p) ?_)
  |(refine cF (hasPre_f s p) ?_)
  | fail)
 exact ret_v
theorem fzT_f0 {H Ht : Heap} {x : FV} : FzOkT H Ht (.f x) (.f x) := .inl (.inl rfl)
theorem fzT_p0 {H Ht : Heap} {id ver off : Nat} (h1 : ver = (H id).1) (h2 : ver = (Ht id).1) (h3 : (H id).2.isSome = true) (h4 : (Ht id).2.isSome = true) : FzOkT H Ht (.ptr id ver off) (.ptr id ver off) := .inl (by rw [so_pp];exact ⟨rfl,rfl,h1,h2,by simp,h3,h4⟩)
theorem fzT_fc1 {H Ht : Heap} {g : Fn} {id ver : Nat} {x : FV} (hc : cellsOf ver (H id) = some [.f x]) (hd : (Ht id).2 = none) : FzOkT H Ht (.clo g [.ptr id ver 0]) (.f (.fc g [.fp [x]])) := .inl (by
 rw [so_cfc]
 refine ⟨rfl,?_⟩
 show SlotsOk H Ht [] [.ptr id ver 0] [.f (.fp [x])]
 rw [so_cons,so_ptf,so_nil]
 exact ⟨⟨hd,_,hc,by simp,rfl⟩,trivial⟩)
theorem fzT_pp {H Ht : Heap} {i v j u : Nat} {l : List FV} (hc : cellsOf v (H i) = some [.ptr j u 0]) (hc2 : cellsOf u (H j) = some (l.map .f)) (hd : (Ht i).2 = none) (hd2 : (Ht j).2 = none) : FzOkT H Ht (.ptr i v 0) (.f (.fp [.fp l])) :=
 .inr ⟨i,v,0,[.fp l],_,rfl,rfl,hd,hc,by simp,by
  show SlotsOk H Ht [] [.ptr j u 0] [.f (.fp l)]
  rw [so_cons,so_ptf,so_nil]
  exact ⟨⟨hd2,_,hc2,by simp,List.take_of_length_le (by simp)⟩,trivial⟩⟩
theorem argsN {id ver : Nat} {cs : List AV} {pcs pcs' : List RC} {F G : FV} : ArgsOk [⟨id,ver,cs,pcs,pcs'⟩] [.f F,.ptr id ver 0,.f G] [.f F,.ptr 100001 1 0,.f G] :=
 ⟨.inl (.inr (.inl ⟨rfl,rfl⟩)),.inl (.inr (.inr ⟨0,_,rfl,rfl,rfl⟩)),.inl (.inr (.inl ⟨rfl,rfl⟩)),trivial⟩
set_option maxHeartbeats 4000000 in
theorem next_f (t : ByteArray) (a : Nat) (ha : a ≤ t.size) (ht : (t.size : Int) ≤ 140737488355328) :
  FRetP Tryz.prog 20 [.v (.str t),.v (.int .i64 a)] [] [] [.v (.str t),.v (.int .i64 (spN t a : Nat))] [.c (.v (.str (nxW t a))),.c (.v (.int .i64 (spN t a : Nat)))] := by
 unfold nxW
 generalize hT : spN t a = E
 have hT2 : E ≤ t.size := by rw [← hT];exact spN_le t a ha
 refine FCall.of_ax low_graph_reader_next ?_
 dsimp only [l_graph_reader_next]
 refine srun_sound 300 _ _ _ _ ?_
 repeat' (first
  | (simp -implicitDefEqProofs only [*,addFp_wr,zr,Nat.reduceAdd,Nat.reduceSub,Nat.reduceMul,Nat.reduceLT,Nat.reduceLeDiff,Nat.reduceEqDiff,Nat.reduceBEq,reduceIte,reduceCtorEq,Int.reduceLE,Int.reduceLT,Int.reduceToNat,Int.reduceEq,Int.reduceNe])
  | ((first|apply zk0|apply zk1|apply zk2|apply zk3|apply zk4|apply zk5|apply zk6|apply zk7|apply zk8|apply zk9) <;> intro hc)
  |(refine callP0 rfl ?_)
  |(refine callD0 rfl ?_)
  | fail)
 refine ax_loopU (S := Nat) 107 [1] [1] (fun s => []) (fun s => [(100001,1,AObj.cells [.f (.str t),.f (.int .i64 s)])]) (fun s => s ≤ t.size ∧ spN t s = E) (fun s => t.size - s) (a) [] ?_ ?_ fun s hs => ?_
 ·exact ⟨ha,hT⟩
 ·refine wk_i ?_ ?_ <;> simp only [zw,Nat.reduceEqDiff,Nat.reduceBEq,Nat.reduceLT,Nat.reduceLeDiff,reduceIte,reduceCtorEq]
 obtain ⟨hi,hinv⟩ := hs
 rcases Nat.lt_or_ge s t.size with hlt | hge
 ·obtain ⟨b,hb⟩ := byte_at hlt
  have h4 := inc64 hlt (by omega)
  have h2 : decide ((s : Int) < (t.size : Int)) = true := dcT (by omega)
  have h2n := lt_t hlt
  have h32 : decide ((b.toNat : Int) = 32) = decide (b = 32) := eq_byte b 32
  cases hp : decide (b = 32) with
  | true =>
   rw [hp] at h32
   have hw := twN_yes (p := fun c => decide (c = 32)) hb hp
   have hinv2 : spN t (s + 1) = E := by rw [← hinv];unfold spN;rw [hw];omega
   clear hw hinv hp hT ha
   refine srun_sound 300 _ _ _ _ ?_
   repeat' (first
    | (simp -implicitDefEqProofs only [*,addFp_wr,zr,Nat.reduceAdd,Nat.reduceSub,Nat.reduceMul,Nat.reduceLT,Nat.reduceLeDiff,Nat.reduceEqDiff,Nat.reduceBEq,reduceIte,reduceCtorEq,Int.reduceLE,Int.reduceLT,Int.reduceToNat,Int.reduceEq,Int.reduceNe])
    | ((first|apply zk0|apply zk1|apply zk2|apply zk3|apply zk4|apply zk5|apply zk6|apply zk7|apply zk8|apply zk9) <;> intro hc)
    |(refine callP0 rfl ?_)
    |(refine callD0 rfl ?_)
    | fail)
   refine ⟨s + 1,⟨hlt,hinv2⟩,by omega,?_⟩
   refine wk_i ?_ ?_ <;> simp only [zw,Nat.reduceEqDiff,Nat.reduceBEq,Nat.reduceLT,Nat.reduceLeDiff,reduceIte,reduceCtorEq]
  | false =>
   rw [hp] at h32
   have hw := twN_no (p := fun c => decide (c = 32)) hb hp
   obtain rfl : s = E := by rw [← hinv];unfold spN;rw [hw];rfl
   clear hw hinv hp hT ha
   have d0 : decide ((s : Int) = (t.size : Int)) = false := dcF (by omega)
   have l0 := le_tt (show (s : Int) ≤ (t.size : Int) by omega)
   have kP := pre_two hb
   have kB := (byte_is b).2.1
   have kS := (byte_is b).1
   have nx := nx_eq hb
   have kH := hasPreS_f (t.extract s t.size) ⟨#[47,47]⟩
   cases hsl : decide (b = 47 ∧ t.data.toList[s + 1]? = some 47) with
   | true =>
    rw [hsl] at kP
    rw [kP] at kH
    rw [if_pos (of_decide_eq_true hsl)] at nx
    rw [nx]
    have N1 := next1_f fn_lb t s s hi (by omega)
    have hz := twN_le isLb t s hi
    generalize hg : s + twN isLb t s = e' at *
    have l1 := le_tt (show (s : Int) ≤ (e' : Int) by omega)
    have l2 := le_tt (show (e' : Int) ≤ (t.size : Int) by omega)
    clear hg
    clear hsl kP kB kS nx hz
    refine srun_sound 300 _ _ _ _ ?_
    repeat' (first
     | (simp -implicitDefEqProofs only [*,addFp_wr,Int.le_refl,zr,Nat.reduceAdd,Nat.reduceSub,Nat.reduceMul,Nat.reduceLT,Nat.reduceLeDiff,Nat.reduceEqDiff,Nat.reduceBEq,reduceIte,reduceCtorEq,Int.reduceLE,Int.reduceLT,Int.reduceToNat,Int.reduceEq,Int.reduceNe])
     | ((first|apply zk0|apply zk1|apply zk2|apply zk3|apply zk4|apply zk5|apply zk6|apply zk7|apply zk8|apply zk9) <;> intro hc)
     |(refine callP0 rfl ?_)
     |(refine callD0 rfl ?_)
     |(refine cP (kH) ?_)
     |(refine cD (kH) ?_)
     |(refine cF (kH) ?_)
     | fail)
    refine callX1z (m := 300) rfl N1 4 1 [.f (.int .i64 s)] [.f (.fc (.func 32) [.fp [.fn (.func 30)]]),.ptr 4 1 0,.f (.fp [.fp [.str t,.int .i64 s]])] (.inr ⟨[.ptr 4 1 0,.ptr 1 1 0],rfl,fzT_fc1 rfl rfl,fzT_p0 rfl rfl rfl rfl,fzT_pp (l := [.str t,.int .i64 s]) rfl rfl rfl rfl,trivial⟩) argsN rfl (by rfl) (by simp) ⟨rfl,rfl⟩ (by simp [idsC]) (by simp [idsC]) (by repeat (first|exact free_0 | exact free_mk (by simp) | refine free_upd rfl ?_ | refine free_kill ?_)) ?_
    clear N1
    repeat' (first
     | (simp -implicitDefEqProofs only [*,addFp_wr,Int.le_refl,zr,Nat.reduceAdd,Nat.reduceSub,Nat.reduceMul,Nat.reduceLT,Nat.reduceLeDiff,Nat.reduceEqDiff,Nat.reduceBEq,reduceIte,reduceCtorEq,Int.reduceLE,Int.reduceLT,Int.reduceToNat,Int.reduceEq,Int.reduceNe])
     | ((first|apply zk0|apply zk1|apply zk2|apply zk3|apply zk4|apply zk5|apply zk6|apply zk7|apply zk8|apply zk9) <;> intro hc)
     |(refine callP0 rfl ?_)
     |(refine callD0 rfl ?_)
     | fail)
    exact ⟨[.f (.str _),.f (.int .i64 _)],[.f (.str t),.f (.int .i64 s)],rfl,rfl,⟨rfl,rfl,rfl⟩,⟨rfl,rfl,rfl⟩,by simp [idsC,idsS],by simp [idsC,idsS]⟩
   | false =>
   rw [hsl] at kP
   rw [kP] at kH
   rw [if_neg (of_decide_eq_false hsl)] at nx
   unfold inRg at kB
   cases hdg : isDg b with
   | true =>
    rw [hdg,Bool.and_eq_true] at kB
    obtain ⟨b48,b57⟩ := kB
    rw [hdg,if_pos rfl] at nx
    rw [nx]
    have N1 := next1_f fn_dg t s s hi (by omega)
    have hz := twN_le isDg t s hi
    generalize hg : s + twN isDg t s = e' at *
    have l1 := le_tt (show (s : Int) ≤ (e' : Int) by omega)
    have l2 := le_tt (show (e' : Int) ≤ (t.size : Int) by omega)
    clear hg
    clear hsl kP kS nx hz hdg
    refine srun_sound 300 _ _ _ _ ?_
    repeat' (first
     | (simp -implicitDefEqProofs only [*,addFp_wr,Int.le_refl,zr,Nat.reduceAdd,Nat.reduceSub,Nat.reduceMul,Nat.reduceLT,Nat.reduceLeDiff,Nat.reduceEqDiff,Nat.reduceBEq,reduceIte,reduceCtorEq,Int.reduceLE,Int.reduceLT,Int.reduceToNat,Int.reduceEq,Int.reduceNe])
     | ((first|apply zk0|apply zk1|apply zk2|apply zk3|apply zk4|apply zk5|apply zk6|apply zk7|apply zk8|apply zk9) <;> intro hc)
     |(refine callP0 rfl ?_)
     |(refine callD0 rfl ?_)
     |(refine cP (kH) ?_)
     |(refine cD (kH) ?_)
     |(refine cF (kH) ?_)
     | fail)
    refine callX1z (m := 300) rfl N1 4 1 [.f (.int .i64 s)] [.f (.fn (.func 34)),.ptr 4 1 0,.f (.fp [.fp [.str t,.int .i64 s]])] (.inr ⟨[.ptr 4 1 0,.ptr 1 1 0],rfl,fzT_f0,fzT_p0 rfl rfl rfl rfl,fzT_pp (l := [.str t,.int .i64 s]) rfl rfl rfl rfl,trivial⟩) argsN rfl (by rfl) (by simp) ⟨rfl,rfl⟩ (by simp [idsC]) (by simp [idsC]) (by repeat (first|exact free_0 | exact free_mk (by simp) | refine free_upd rfl ?_ | refine free_kill ?_)) ?_
    clear N1
    repeat' (first
     | (simp -implicitDefEqProofs only [*,addFp_wr,Int.le_refl,zr,Nat.reduceAdd,Nat.reduceSub,Nat.reduceMul,Nat.reduceLT,Nat.reduceLeDiff,Nat.reduceEqDiff,Nat.reduceBEq,reduceIte,reduceCtorEq,Int.reduceLE,Int.reduceLT,Int.reduceToNat,Int.reduceEq,Int.reduceNe])
     | ((first|apply zk0|apply zk1|apply zk2|apply zk3|apply zk4|apply zk5|apply zk6|apply zk7|apply zk8|apply zk9) <;> intro hc)
     |(refine callP0 rfl ?_)
     |(refine callD0 rfl ?_)
     | fail)
    exact ⟨[.f (.str _),.f (.int .i64 _)],[.f (.str t),.f (.int .i64 s)],rfl,rfl,⟨rfl,rfl,rfl⟩,⟨rfl,rfl,rfl⟩,by simp [idsC,idsS],by simp [idsC,idsS]⟩
   | false =>
   rw [hdg] at kB
   rw [hdg,if_neg (by decide)] at nx
   have kF := next2_f (b.toNat : Nat)
   rw [kS] at kF
   generalize hb48 : decide ((48 : Int) ≤ (b.toNat : Int)) = b48 at *
   generalize hb57 : decide ((b.toNat : Int) ≤ 57) = b57 at *
   cases hsm : isSm b with
   | true =>
    rw [hsm,if_pos rfl] at nx
    rw [hsm] at kF
    rw [nx]
    have N1 := next1_f fn_sm t s s hi (by omega)
    have hz := twN_le isSm t s hi
    generalize hg : s + twN isSm t s = e' at *
    have l1 := le_tt (show (s : Int) ≤ (e' : Int) by omega)
    have l2 := le_tt (show (e' : Int) ≤ (t.size : Int) by omega)
    clear hg
    clear hsl kP kS nx hz hdg hsm
    refine srun_sound 300 _ _ _ _ ?_
    repeat' (first
     | (simp -implicitDefEqProofs only [*,addFp_wr,Int.le_refl,zr,Nat.reduceAdd,Nat.reduceSub,Nat.reduceMul,Nat.reduceLT,Nat.reduceLeDiff,Nat.reduceEqDiff,Nat.reduceBEq,reduceIte,reduceCtorEq,Int.reduceLE,Int.reduceLT,Int.reduceToNat,Int.reduceEq,Int.reduceNe])
     | ((first|apply zk0|apply zk1|apply zk2|apply zk3|apply zk4|apply zk5|apply zk6|apply zk7|apply zk8|apply zk9) <;> intro hc)
     |(refine callP0 rfl ?_)
     |(refine callD0 rfl ?_)
     |(refine cP (kH) ?_)
     |(refine cD (kH) ?_)
     |(refine cF (kH) ?_)
     |(refine cP (kF) ?_)
     |(refine cD (kF) ?_)
     |(refine cF (kF) ?_)
     | fail)
    all_goals first | (exfalso;simp_all;done) | skip
    all_goals refine callX1z (m := 300) rfl N1 4 1 [.f (.int .i64 s)] [.f (.fn (.func 30)),.ptr 4 1 0,.f (.fp [.fp [.str t,.int .i64 s]])] (.inr ⟨[.ptr 4 1 0,.ptr 1 1 0],rfl,fzT_f0,fzT_p0 rfl rfl rfl rfl,fzT_pp (l := [.str t,.int .i64 s]) rfl rfl rfl rfl,trivial⟩) argsN rfl (by rfl) (by simp) ⟨rfl,rfl⟩ (by simp [idsC]) (by simp [idsC]) (by repeat (first|exact free_0 | exact free_mk (by simp) | refine free_upd rfl ?_ | refine free_kill ?_)) ?_
    all_goals clear N1
    repeat' (first
     | (simp -implicitDefEqProofs only [*,addFp_wr,Int.le_refl,zr,Nat.reduceAdd,Nat.reduceSub,Nat.reduceMul,Nat.reduceLT,Nat.reduceLeDiff,Nat.reduceEqDiff,Nat.reduceBEq,reduceIte,reduceCtorEq,Int.reduceLE,Int.reduceLT,Int.reduceToNat,Int.reduceEq,Int.reduceNe])
     | ((first|apply zk0|apply zk1|apply zk2|apply zk3|apply zk4|apply zk5|apply zk6|apply zk7|apply zk8|apply zk9) <;> intro hc)
     |(refine callP0 rfl ?_)
     |(refine callD0 rfl ?_)
     | fail)
    all_goals exact ⟨[.f (.str _),.f (.int .i64 _)],[.f (.str t),.f (.int .i64 s)],rfl,rfl,⟨rfl,rfl,rfl⟩,⟨rfl,rfl,rfl⟩,by simp [idsC,idsS],by simp [idsC,idsS]⟩
   | false =>
    rw [hsm,if_neg (by decide)] at nx
    rw [hsm] at kF
    rw [nx]
    have l1 := le_tt (show (s : Int) ≤ ((s + 1 : Nat) : Int) by omega)
    have l2 := le_tt (show ((s + 1 : Nat) : Int) ≤ (t.size : Int) by omega)
    clear hsl kP kS nx hdg hsm
    refine srun_sound 300 _ _ _ _ ?_
    repeat' (first
     | (simp -implicitDefEqProofs only [*,addFp_wr,Int.le_refl,zr,Nat.reduceAdd,Nat.reduceSub,Nat.reduceMul,Nat.reduceLT,Nat.reduceLeDiff,Nat.reduceEqDiff,Nat.reduceBEq,reduceIte,reduceCtorEq,Int.reduceLE,Int.reduceLT,Int.reduceToNat,Int.reduceEq,Int.reduceNe])
     | ((first|apply zk0|apply zk1|apply zk2|apply zk3|apply zk4|apply zk5|apply zk6|apply zk7|apply zk8|apply zk9) <;> intro hc)
     |(refine callP0 rfl ?_)
     |(refine callD0 rfl ?_)
     |(refine cP (kH) ?_)
     |(refine cD (kH) ?_)
     |(refine cF (kH) ?_)
     |(refine cP (kF) ?_)
     |(refine cD (kF) ?_)
     |(refine cF (kF) ?_)
     | fail)
    all_goals first | (exfalso;simp_all;done) | skip
    all_goals exact ⟨[.f (.str _),.f (.int .i64 _)],[.f (.str t),.f (.int .i64 s)],rfl,rfl,⟨rfl,rfl,rfl⟩,⟨rfl,rfl,rfl⟩,by simp [idsC,idsS],by simp [idsC,idsS]⟩
 ·have hw := twN_end (p := fun c => decide (c = 32)) hge
  obtain rfl : s = E := by rw [← hinv];unfold spN;rw [hw];rfl
  have h2 : decide ((s : Int) < (t.size : Int)) = false := dcF (by omega)
  have h2n := lt_f hge
  have d0 : decide ((s : Int) = (t.size : Int)) = true := dcT (by omega)
  have l0 := le_tt (show (s : Int) ≤ (t.size : Int) by omega)
  rw [nx_end hge]
  clear hw hinv hT ha
  refine srun_sound 300 _ _ _ _ ?_
  repeat' (first
   | (simp -implicitDefEqProofs only [*,addFp_wr,Int.le_refl,zr,Nat.reduceAdd,Nat.reduceSub,Nat.reduceMul,Nat.reduceLT,Nat.reduceLeDiff,Nat.reduceEqDiff,Nat.reduceBEq,reduceIte,reduceCtorEq,Int.reduceLE,Int.reduceLT,Int.reduceToNat,Int.reduceEq,Int.reduceNe])
   | ((first|apply zk0|apply zk1|apply zk2|apply zk3|apply zk4|apply zk5|apply zk6|apply zk7|apply zk8|apply zk9) <;> intro hc)
   |(refine callP0 rfl ?_)
   |(refine callD0 rfl ?_)
   | fail)
  exact ⟨[.f (.str _),.f (.int .i64 _)],[.f (.str t),.f (.int .i64 s)],rfl,rfl,⟨rfl,rfl,rfl⟩,⟨rfl,rfl,rfl⟩,by simp [idsC,idsS],by simp [idsC,idsS]⟩
end Go.Proofs.YtagkdifaldikgaaGreatDoor
