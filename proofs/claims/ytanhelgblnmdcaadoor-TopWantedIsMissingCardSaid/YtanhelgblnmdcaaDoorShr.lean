/-
  cache.Shrunk. No statement of the seat is proved here; no conditions.
-/
import Derived.Test.YtanhelgblnmdcaaDoorLvF
import Derived.Test.YtanhelgblnmdcaaDoorCaW
namespace Go.Proofs.YtanhelgblnmdcaaDoor
open Go.RowKit Go.Shelf
set_option linter.unusedVariables false
set_option linter.unusedSimpArgs false
set_option maxRecDepth 100000

def cutN : Int → List Blob → Nat
 | _,[] => 0
 | over,b :: l => if over ≤ 0 then 0 else cutN (over - b.2.1) l + 1
theorem cutN_of : ∀ (l : List Blob) (over : Int) (s : Nat),s ≤ l.length → (∀ m,m < s → 0 < over - sumSz (l.take m)) → (s < l.length → over - sumSz (l.take s) ≤ 0) → cutN over l = s
 | [],over,s,h1,_,_ => by
  have : s = 0 := by simpa using h1
  rw [this];rfl
 | b :: l,over,0,_,_,h3 => by
  have := h3 (by simp)
  simp only [List.take_zero,sumSz] at this
  rw [cutN,if_pos (by omega)]
 | b :: l,over,s + 1,h1,h2,h3 => by
  have h0 := h2 0 (by omega)
  simp only [List.take_zero,sumSz] at h0
  rw [cutN,if_neg (by omega),cutN_of l (over - b.2.1) s (by simpa using h1) (fun m hm => ?_) (fun hm => ?_)]
  ·have := h2 (m + 1) (by omega)
   simp only [List.take_succ_cons,sumSz] at this
   omega
  ·have := h3 (by simpa using hm)
   simp only [List.take_succ_cons,sumSz] at this
   omega
def digsB (l : List Blob) : List ByteArray := l.map fun b => b.1
def clrGone (bl : List Blob) (at_ over : Int) : List ByteArray := digsB ((leavV bl at_).take (cutN over (leavV bl at_)))
theorem leav_len {bl : List Blob} {at_ : Int} (hb : bl.length ≤ 1000000) : (leavV bl at_).length ≤ 1000000 := by
 unfold leavV
 rw [sortT_len];exact Nat.le_trans (List.length_filter_le _ _) hb
set_option maxHeartbeats 1000000 in
theorem clear_no (room lease : Int) (bl : List Blob) (en : List Entry) (most at_ over : Int) (hb : bl.length ≤ 1000000) (hr : RiseB bl) (ho : IntKind.i64.wrap (wsum bl - most) = over) (hn : wsum (leavV bl at_) < over) :
  FRetP Tryd.prog 44 [.v (.int .i64 room),.v (.int .i64 lease),.own 5 bl.length (rowF fBlob bl),.own 3 en.length (rowF fEntry en)] [] [.f (.int .i64 most),.f (.int .i64 at_)]
   [.v (.int .i64 room),.v (.int .i64 lease),.own 5 bl.length (rowF fBlob bl),.own 3 en.length (rowF fEntry en)] [.c (.own 1 0 []),.c (.v (.bool false))] := by
 have hlv := leaving_f room lease bl en at_ hb hr
 have hll := leav_len (at_ := at_) hb
 have hus := used_f (room,lease,bl,en) (by show (bl.length : Int) ≤ _;omega)
 refine FCall.of_ax low_cache_clear ?_
 dsimp only [l_cache_clear,aCache] at hlv hus ⊢
 generalize leavV bl at_ = L at *
 have hso := sumOf_f L hll
 have hc : decide (over > wsum L) = true := dcT hn
 have hc2 : decide (wsum L < over) = true := dcT hn
 have hR := hide hr
 clear hr hn
 refine srun_sound 300 _ _ _ _ ?_
 repeat' (first
  | (simp -implicitDefEqProofs only [*,zr,Nat.reduceAdd,Nat.reduceSub,Nat.reduceMul,Nat.reduceLT,Nat.reduceLeDiff,Nat.reduceEqDiff,Nat.reduceBEq,reduceIte,reduceCtorEq,Int.reduceLE,Int.reduceLT,Int.reduceToNat,Int.reduceEq,Int.reduceNe])
  | ((first|apply zk0|apply zk1|apply zk2|apply zk3|apply zk4|apply zk5|apply zk6|apply zk7|apply zk8|apply zk9) <;> intro hc)
  |(refine callP0 rfl ?_)
  |(refine callD0 rfl ?_)
  | fail)
 refine callF rfl hlv rfl ?_ (by have := rowB_plain L [] rfl;simpa [RS.all,RC.all] using this) (by first | exact free_mk rfl | exact free_mk (by simp) | (repeat (first|exact free_0 | exact free_mk rfl | exact free_mk (by simp) | refine free_upd rfl ?_ | refine free_kill ?_))) ?_
 ·show SlotsOk _ _ _ [.agg [.f (.int .i64 room),.f (.int .i64 lease),.sl 80000 1 5 0 bl.length,.sl 81000 1 3 0 en.length],.f (.int .i64 at_)] [.agg [.f (.int .i64 room),.f (.int .i64 lease),.f (frBlobs bl),.f (frEntries en)],.f (.int .i64 at_)]
  rw [so_cons,so_cons,so_nil,so_aa,so_cons,so_cons,so_cons,so_cons,so_nil]
  exact ⟨⟨so_f,so_f,so_row0 (enc := fBlob) (fun _ => rfl) rfl rfl rfl,so_row0 (enc := fEntry) (fun _ => rfl) rfl rfl rfl,trivial⟩,so_f,trivial⟩
 repeat' (first
  | (simp -implicitDefEqProofs only [*,zr,Nat.reduceAdd,Nat.reduceSub,Nat.reduceMul,Nat.reduceLT,Nat.reduceLeDiff,Nat.reduceEqDiff,Nat.reduceBEq,reduceIte,reduceCtorEq,Int.reduceLE,Int.reduceLT,Int.reduceToNat,Int.reduceEq,Int.reduceNe])
  | ((first|apply zk0|apply zk1|apply zk2|apply zk3|apply zk4|apply zk5|apply zk6|apply zk7|apply zk8|apply zk9) <;> intro hc)
  |(refine callP0 rfl ?_)
  |(refine callD0 rfl ?_)
  | fail)
 refine ax_weakA [] (nw := []) (n := 50) (el := [(0,.ptr 100001 1 0),(1,.f (.int .i64 most)),(2,.f (.int .i64 at_)),(8,.f (frBlobs L)),(20,.agg [.f (.int .i64 room),.f (.int .i64 lease),.sl 80000 1 5 0 bl.length,.sl 81000 1 3 0 en.length])]) (hl := [(80000,1,.cells ((rowF fBlob bl).map .f)),(81000,1,.cells ((rowF fEntry en).map .f)),(100001,1,.cells [.f (.int .i64 room),.f (.int .i64 lease),.sl 80000 1 5 0 bl.length,.sl 81000 1 3 0 en.length])]) rfl ?_ ?_
 ·refine wk_i ?_ ?_ <;> simp only [so_mf,mapOfH_some,so_ptf,so_cc,so_ff',cellsOf_some,List.drop_zero,List.take_succ_cons,List.take_zero,Nat.zero_add,Nat.le_refl,zw,Nat.reduceEqDiff,Nat.reduceBEq,Nat.reduceLT,Nat.reduceLeDiff,reduceIte,reduceCtorEq]
  exact so_row0 (enc := fBlob) (fun _ => rfl) rfl rfl rfl
 refine callF rfl hus rfl ?_ (by simp [RS.all,RC.all,FV.plain]) (by first | exact free_mk rfl | exact free_mk (by simp) | (repeat (first|exact free_0 | exact free_mk rfl | exact free_mk (by simp) | refine free_upd rfl ?_ | refine free_kill ?_))) ?_
 ·show SlotsOk _ _ _ [.agg [.f (.int .i64 room),.f (.int .i64 lease),.sl 80000 1 5 0 bl.length,.sl 81000 1 3 0 en.length]] [.agg [.f (.int .i64 room),.f (.int .i64 lease),.f (frBlobs bl),.f (frEntries en)]]
  rw [so_cons,so_nil,so_aa,so_cons,so_cons,so_cons,so_cons,so_nil]
  exact ⟨⟨so_f,so_f,so_row0 (enc := fBlob) (fun _ => rfl) rfl rfl rfl,so_row0 (enc := fEntry) (fun _ => rfl) rfl rfl rfl,trivial⟩,trivial⟩
 repeat' (first
  | (simp -implicitDefEqProofs only [*,zr,Nat.reduceAdd,Nat.reduceSub,Nat.reduceMul,Nat.reduceLT,Nat.reduceLeDiff,Nat.reduceEqDiff,Nat.reduceBEq,reduceIte,reduceCtorEq,Int.reduceLE,Int.reduceLT,Int.reduceToNat,Int.reduceEq,Int.reduceNe])
  | ((first|apply zk0|apply zk1|apply zk2|apply zk3|apply zk4|apply zk5|apply zk6|apply zk7|apply zk8|apply zk9) <;> intro hc)
  |(refine callP0 rfl ?_)
  |(refine callD0 rfl ?_)
  |(refine cP (hso) ?_)
  |(refine cD (hso) ?_)
  |(refine cF (hso) ?_)
  |(refine cO (hso) ?_)
  | fail)
 exact ⟨[.f .nil,.f (.bool false)],[.f (.int .i64 room),.f (.int .i64 lease),.sl 80000 1 5 0 bl.length,.sl 81000 1 3 0 en.length],rfl,rfl,⟨rfl,rfl,.inr ⟨80000,1,rfl,rfl,by rw [row_len (sz := 5) (fun _ => rfl)];exact Nat.le_refl _⟩,.inr ⟨81000,1,rfl,rfl,by rw [row_len (sz := 3) (fun _ => rfl)];exact Nat.le_refl _⟩,rfl⟩,⟨.inl ⟨rfl,rfl,rfl⟩,rfl,rfl⟩,by simp [idsC,idsS],by simp [idsC,idsS]⟩
theorem sum_le {l : List Blob} (h : ∀ b ∈ l,0 ≤ b.2.1) (n : Nat) : 0 ≤ sumSz (l.take n) := by
 have : ∀ m : List Blob,(∀ b ∈ m,0 ≤ b.2.1) → 0 ≤ sumSz m := by
  intro m hm
  induction m with
  | nil => simp [sumSz]
  | cons b m ih => have := hm b (by simp);have := ih fun x hx => hm x (by simp [hx]);simp only [sumSz];omega
 exact this _ fun b hb => h b (List.mem_of_mem_take hb)
set_option maxHeartbeats 1000000 in
theorem clear_yes (room lease : Int) (bl : List Blob) (en : List Entry) (most at_ over : Int) (hb : bl.length ≤ 1000000) (hr : RiseB bl) (hsz : ∀ b ∈ bl,0 ≤ b.2.1 ∧ b.2.1 ≤ 100000000) (ho : IntKind.i64.wrap (wsum bl - most) = over) (hov : over ≤ 1000000000000000) (hn : over ≤ wsum (leavV bl at_)) :
  FRetP Tryd.prog 44 [.v (.int .i64 room),.v (.int .i64 lease),.own 5 bl.length (rowF fBlob bl),.own 3 en.length (rowF fEntry en)] [] [.f (.int .i64 most),.f (.int .i64 at_)]
   [.v (.int .i64 room),.v (.int .i64 lease),.own 5 (keepL (fun b : Blob => hasS b.1 (clrGone bl at_ over)) bl).length (rowF fBlob (keepL (fun b : Blob => hasS b.1 (clrGone bl at_ over)) bl) ++ zB (bl.length - (keepL (fun b : Blob => hasS b.1 (clrGone bl at_ over)) bl).length)),.own 3 en.length (rowF fEntry en)] [.c (.v (frStrs (clrGone bl at_ over))),.c (.v (.bool true))] := by
 have hlv := leaving_f room lease bl en at_ hb hr
 have hll := leav_len (at_ := at_) hb
 have hus := used_f (room,lease,bl,en) (by show (bl.length : Int) ≤ _;omega)
 have hLs : ∀ b ∈ leavV bl at_,0 ≤ b.2.1 ∧ b.2.1 ≤ 100000000 := fun b hb => by
  unfold leavV at hb
  rw [(sortT_perm ltB _).mem_iff] at hb
  exact hsz b (List.mem_filter.1 hb).1
 refine FCall.of_ax low_cache_clear ?_
 unfold clrGone
 dsimp only [l_cache_clear,aCache] at hlv hus ⊢
 generalize leavV bl at_ = L at *
 have hso := sumOf_f L hll
 have hc : decide (over > wsum L) = false := dcF (by omega)
 have hc2 : decide (wsum L < over) = false := dcF (by omega)
 have hR := hide hr
 have hOV := hide hov
 have hLS := hide hLs
 clear hr hn hsz hov hLs
 refine srun_sound 300 _ _ _ _ ?_
 repeat' (first
  | (simp -implicitDefEqProofs only [*,zr,Nat.reduceAdd,Nat.reduceSub,Nat.reduceMul,Nat.reduceLT,Nat.reduceLeDiff,Nat.reduceEqDiff,Nat.reduceBEq,reduceIte,reduceCtorEq,Int.reduceLE,Int.reduceLT,Int.reduceToNat,Int.reduceEq,Int.reduceNe])
  | ((first|apply zk0|apply zk1|apply zk2|apply zk3|apply zk4|apply zk5|apply zk6|apply zk7|apply zk8|apply zk9) <;> intro hc)
  |(refine callP0 rfl ?_)
  |(refine callD0 rfl ?_)
  | fail)
 refine callF rfl hlv rfl ?_ (by have := rowB_plain L [] rfl;simpa [RS.all,RC.all] using this) (by first | exact free_mk rfl | exact free_mk (by simp) | (repeat (first|exact free_0 | exact free_mk rfl | exact free_mk (by simp) | refine free_upd rfl ?_ | refine free_kill ?_))) ?_
 ·show SlotsOk _ _ _ [.agg [.f (.int .i64 room),.f (.int .i64 lease),.sl 80000 1 5 0 bl.length,.sl 81000 1 3 0 en.length],.f (.int .i64 at_)] [.agg [.f (.int .i64 room),.f (.int .i64 lease),.f (frBlobs bl),.f (frEntries en)],.f (.int .i64 at_)]
  rw [so_cons,so_cons,so_nil,so_aa,so_cons,so_cons,so_cons,so_cons,so_nil]
  exact ⟨⟨so_f,so_f,so_row0 (enc := fBlob) (fun _ => rfl) rfl rfl rfl,so_row0 (enc := fEntry) (fun _ => rfl) rfl rfl rfl,trivial⟩,so_f,trivial⟩
 repeat' (first
  | (simp -implicitDefEqProofs only [*,zr,Nat.reduceAdd,Nat.reduceSub,Nat.reduceMul,Nat.reduceLT,Nat.reduceLeDiff,Nat.reduceEqDiff,Nat.reduceBEq,reduceIte,reduceCtorEq,Int.reduceLE,Int.reduceLT,Int.reduceToNat,Int.reduceEq,Int.reduceNe])
  | ((first|apply zk0|apply zk1|apply zk2|apply zk3|apply zk4|apply zk5|apply zk6|apply zk7|apply zk8|apply zk9) <;> intro hc)
  |(refine callP0 rfl ?_)
  |(refine callD0 rfl ?_)
  | fail)
 refine ax_weakA [] (nw := []) (n := 50) (el := [(0,.ptr 100001 1 0),(1,.f (.int .i64 most)),(2,.f (.int .i64 at_)),(8,.f (frBlobs L)),(20,.agg [.f (.int .i64 room),.f (.int .i64 lease),.sl 80000 1 5 0 bl.length,.sl 81000 1 3 0 en.length])]) (hl := [(80000,1,.cells ((rowF fBlob bl).map .f)),(81000,1,.cells ((rowF fEntry en).map .f)),(100001,1,.cells [.f (.int .i64 room),.f (.int .i64 lease),.sl 80000 1 5 0 bl.length,.sl 81000 1 3 0 en.length])]) rfl ?_ ?_
 ·refine wk_i ?_ ?_ <;> simp only [so_mf,mapOfH_some,so_ptf,so_cc,so_ff',cellsOf_some,List.drop_zero,List.take_succ_cons,List.take_zero,Nat.zero_add,Nat.le_refl,zw,Nat.reduceEqDiff,Nat.reduceBEq,Nat.reduceLT,Nat.reduceLeDiff,reduceIte,reduceCtorEq]
  exact so_row0 (enc := fBlob) (fun _ => rfl) rfl rfl rfl
 refine callF rfl hus rfl ?_ (by simp [RS.all,RC.all,FV.plain]) (by first | exact free_mk rfl | exact free_mk (by simp) | (repeat (first|exact free_0 | exact free_mk rfl | exact free_mk (by simp) | refine free_upd rfl ?_ | refine free_kill ?_))) ?_
 ·show SlotsOk _ _ _ [.agg [.f (.int .i64 room),.f (.int .i64 lease),.sl 80000 1 5 0 bl.length,.sl 81000 1 3 0 en.length]] [.agg [.f (.int .i64 room),.f (.int .i64 lease),.f (frBlobs bl),.f (frEntries en)]]
  rw [so_cons,so_nil,so_aa,so_cons,so_cons,so_cons,so_cons,so_nil]
  exact ⟨⟨so_f,so_f,so_row0 (enc := fBlob) (fun _ => rfl) rfl rfl rfl,so_row0 (enc := fEntry) (fun _ => rfl) rfl rfl rfl,trivial⟩,trivial⟩
 repeat' (first
  | (simp -implicitDefEqProofs only [*,frBlobs,zr,Nat.reduceAdd,Nat.reduceSub,Nat.reduceMul,Nat.reduceLT,Nat.reduceLeDiff,Nat.reduceEqDiff,Nat.reduceBEq,reduceIte,reduceCtorEq,Int.reduceLE,Int.reduceLT,Int.reduceToNat,Int.reduceEq,Int.reduceNe])
  | ((first|apply zk0|apply zk1|apply zk2|apply zk3|apply zk4|apply zk5|apply zk6|apply zk7|apply zk8|apply zk9) <;> intro hc)
  |(refine callP0 rfl ?_)
  |(refine callD0 rfl ?_)
  |(refine cP (hso) ?_)
  |(refine cD (hso) ?_)
  |(refine cF (hso) ?_)
  |(refine cO (hso) ?_)
  | fail)
 refine ax_loopU (S := Nat) 50 [0,28,29] [80000,81000,100001] (fun s => [(9,.f (.int .i64 (over - sumSz (L.take s)))),(10,.sl 44 1 1 0 s),(30,.f (.int .i64 s))]) (fun s => [(44,1,((digsB (L.take s)).map FV.str).map AV.f)]) (fun s => s ≤ L.length ∧ ∀ m,m < s → 0 < over - sumSz (L.take m)) (fun s => L.length - s) (0) [44] ?_ ?_ fun s hs => ?_
 ·exact ⟨Nat.zero_le _,fun m h => absurd h (by omega)⟩
 ·refine wk_i ?_ ?_ <;> simp only [List.take_zero,sumSz,digsB,Int.sub_zero,zw,Nat.reduceEqDiff,Nat.reduceBEq,Nat.reduceLT,Nat.reduceLeDiff,reduceIte,reduceCtorEq]
 obtain ⟨hsl,hall⟩ := hs
 refine srun_sound 300 _ _ _ _ ?_
 have key : (s = L.length ∨ (s < L.length ∧ over - sumSz (L.take s) ≤ 0)) ∨ (s < L.length ∧ 0 < over - sumSz (L.take s)) := by omega
 rcases key with key | ⟨hlt,hpos⟩
 ·have hcut : cutN over L = s := cutN_of L over s hsl hall (fun h => by omega)
  rw [hcut]
  have hgl : (digsB (L.take s)).length ≤ 1000000 := by
   unfold digsB;rw [List.length_map,List.length_take];omega
  have hgl2 : (digsB (L.take s)).length = s := by
   unfold digsB;rw [List.length_map,List.length_take];omega
  rcases key with heq | ⟨hlt,hneg⟩
  ·have h2 := lt_f (Nat.le_of_eq heq.symm)
   clear heq
   repeat' (first
    | (simp -implicitDefEqProofs only [*,zr,Nat.reduceAdd,Nat.reduceSub,Nat.reduceMul,Nat.reduceLT,Nat.reduceLeDiff,Nat.reduceEqDiff,Nat.reduceBEq,reduceIte,reduceCtorEq,Int.reduceLE,Int.reduceLT,Int.reduceToNat,Int.reduceEq,Int.reduceNe])
    | ((first|apply zk0|apply zk1|apply zk2|apply zk3|apply zk4|apply zk5|apply zk6|apply zk7|apply zk8|apply zk9) <;> intro hc)
    |(refine callP0 rfl ?_)
    |(refine callD0 rfl ?_)
    | fail)
   refine ax_weakA [] (nw := []) (n := 50) (el := [(0,.ptr 100001 1 0),(10,.f (frStrs (digsB (L.take s)))),(46,.ptr 100001 1 0),(47,.f (frStrs (digsB (L.take s))))]) (hl := [(80000,1,.cells ((rowF fBlob bl).map .f)),(81000,1,.cells ((rowF fEntry en).map .f)),(100001,1,.cells [.f (.int .i64 room),.f (.int .i64 lease),.sl 80000 1 5 0 bl.length,.sl 81000 1 3 0 en.length])]) rfl ?_ ?_
   ·refine wk_i ?_ ?_ <;> simp only [so_mf,mapOfH_some,so_ptf,so_cc,so_ff',cellsOf_some,List.drop_zero,List.take_succ_cons,List.take_zero,Nat.zero_add,Nat.le_refl,zw,Nat.reduceEqDiff,Nat.reduceBEq,Nat.reduceLT,Nat.reduceLeDiff,reduceIte,reduceCtorEq]
    all_goals first | exact so_strsN (by rfl) (by rfl) hgl2.symm |(refine And.intro ?_ ?_ <;> exact so_strsN (by rfl) (by rfl) hgl2.symm)
   refine callPm rfl (drop_f (room,lease,bl,en) bl.length en.length (rowF fBlob bl) (rowF fEntry en) rfl rfl (digsB (L.take s)) hb hgl (by rw [row_len (sz := 3) (fun _ => rfl)];exact Nat.le_refl _) room lease) rfl 100001 1 [.f (.int .i64 room),.f (.int .i64 lease),.sl 80000 1 5 0 bl.length,.sl 81000 1 3 0 en.length] [] [.f (frStrs (digsB (L.take s)))] rfl rfl ⟨rfl,rfl,.inr ⟨_,_,rfl,rfl,by rw [row_len (sz := 5) (fun _ => rfl)];exact Nat.le_refl _⟩,.inr ⟨_,_,rfl,rfl,by rw [row_len (sz := 3) (fun _ => rfl)];exact Nat.le_refl _⟩,rfl⟩ rfl (by simp [idsC,idsS]) (by simp [idsC,idsS]) (LeL.refl _) rfl (by first | exact free_mk rfl | exact free_mk (by simp) | (repeat (first|exact free_mk rfl | exact free_mk (by simp) | refine free_upd rfl ?_ | refine free_kill ?_))) ?_
   repeat' (first
    | (simp -implicitDefEqProofs only [*,zr,Nat.reduceAdd,Nat.reduceSub,Nat.reduceMul,Nat.reduceLT,Nat.reduceLeDiff,Nat.reduceEqDiff,Nat.reduceBEq,reduceIte,reduceCtorEq,Int.reduceLE,Int.reduceLT,Int.reduceToNat,Int.reduceEq,Int.reduceNe])
    | ((first|apply zk0|apply zk1|apply zk2|apply zk3|apply zk4|apply zk5|apply zk6|apply zk7|apply zk8|apply zk9) <;> intro hc)
    |(refine callP0 rfl ?_)
    |(refine callD0 rfl ?_)
    | fail)
   exact ⟨[.f (frStrs (digsB (L.take s))),.f (.bool true)],[.f (.int .i64 room),.f (.int .i64 lease),.sl 48 1 5 0 (keepL (fun b : Blob => hasS b.1 (digsB (L.take s))) bl).length,.sl 1048 1 3 0 en.length],rfl,rfl,⟨rfl,rfl,.inr ⟨48,1,rfl,rfl,by rw [List.length_append,row_len (sz := 5) (fun _ => rfl)];exact Nat.le_add_right _ _⟩,.inr ⟨1048,1,rfl,rfl,by rw [row_len (sz := 3) (fun _ => rfl)];exact Nat.le_refl _⟩,rfl⟩,⟨rfl,rfl,rfl⟩,by simp [idsC,idsS],by simp [idsC,idsS]⟩
  ·obtain ⟨x,hx⟩ := get_some hlt
   have h2 := lt_t hlt
   have h4 := inc64 hlt (by omega)
   have h5 : decide (over - sumSz (L.take s) ≤ 0) = true := dcT hneg
   clear hall hneg
   repeat' (first
    | (simp -implicitDefEqProofs only [*,List.getElem?_map,Option.map_some,fBlob,zr,Nat.reduceAdd,Nat.reduceSub,Nat.reduceMul,Nat.reduceLT,Nat.reduceLeDiff,Nat.reduceEqDiff,Nat.reduceBEq,reduceIte,reduceCtorEq,Int.reduceLE,Int.reduceLT,Int.reduceToNat,Int.reduceEq,Int.reduceNe])
    | ((first|apply zk0|apply zk1|apply zk2|apply zk3|apply zk4|apply zk5|apply zk6|apply zk7|apply zk8|apply zk9) <;> intro hc)
    |(refine callP0 rfl ?_)
    |(refine callD0 rfl ?_)
    | fail)
   refine ax_weakA [] (nw := []) (n := 50) (el := [(0,.ptr 100001 1 0),(10,.f (frStrs (digsB (L.take s)))),(46,.ptr 100001 1 0),(47,.f (frStrs (digsB (L.take s))))]) (hl := [(80000,1,.cells ((rowF fBlob bl).map .f)),(81000,1,.cells ((rowF fEntry en).map .f)),(100001,1,.cells [.f (.int .i64 room),.f (.int .i64 lease),.sl 80000 1 5 0 bl.length,.sl 81000 1 3 0 en.length])]) rfl ?_ ?_
   ·refine wk_i ?_ ?_ <;> simp only [so_mf,mapOfH_some,so_ptf,so_cc,so_ff',cellsOf_some,List.drop_zero,List.take_succ_cons,List.take_zero,Nat.zero_add,Nat.le_refl,zw,Nat.reduceEqDiff,Nat.reduceBEq,Nat.reduceLT,Nat.reduceLeDiff,reduceIte,reduceCtorEq]
    all_goals first | exact so_strsN (by rfl) (by rfl) hgl2.symm |(refine And.intro ?_ ?_ <;> exact so_strsN (by rfl) (by rfl) hgl2.symm)
   refine callPm rfl (drop_f (room,lease,bl,en) bl.length en.length (rowF fBlob bl) (rowF fEntry en) rfl rfl (digsB (L.take s)) hb hgl (by rw [row_len (sz := 3) (fun _ => rfl)];exact Nat.le_refl _) room lease) rfl 100001 1 [.f (.int .i64 room),.f (.int .i64 lease),.sl 80000 1 5 0 bl.length,.sl 81000 1 3 0 en.length] [] [.f (frStrs (digsB (L.take s)))] rfl rfl ⟨rfl,rfl,.inr ⟨_,_,rfl,rfl,by rw [row_len (sz := 5) (fun _ => rfl)];exact Nat.le_refl _⟩,.inr ⟨_,_,rfl,rfl,by rw [row_len (sz := 3) (fun _ => rfl)];exact Nat.le_refl _⟩,rfl⟩ rfl (by simp [idsC,idsS]) (by simp [idsC,idsS]) (LeL.refl _) rfl (by first | exact free_mk rfl | exact free_mk (by simp) | (repeat (first|exact free_mk rfl | exact free_mk (by simp) | refine free_upd rfl ?_ | refine free_kill ?_))) ?_
   repeat' (first
    | (simp -implicitDefEqProofs only [*,zr,Nat.reduceAdd,Nat.reduceSub,Nat.reduceMul,Nat.reduceLT,Nat.reduceLeDiff,Nat.reduceEqDiff,Nat.reduceBEq,reduceIte,reduceCtorEq,Int.reduceLE,Int.reduceLT,Int.reduceToNat,Int.reduceEq,Int.reduceNe])
    | ((first|apply zk0|apply zk1|apply zk2|apply zk3|apply zk4|apply zk5|apply zk6|apply zk7|apply zk8|apply zk9) <;> intro hc)
    |(refine callP0 rfl ?_)
    |(refine callD0 rfl ?_)
    | fail)
   exact ⟨[.f (frStrs (digsB (L.take s))),.f (.bool true)],[.f (.int .i64 room),.f (.int .i64 lease),.sl 48 1 5 0 (keepL (fun b : Blob => hasS b.1 (digsB (L.take s))) bl).length,.sl 1048 1 3 0 en.length],rfl,rfl,⟨rfl,rfl,.inr ⟨48,1,rfl,rfl,by rw [List.length_append,row_len (sz := 5) (fun _ => rfl)];exact Nat.le_add_right _ _⟩,.inr ⟨1048,1,rfl,rfl,by rw [row_len (sz := 3) (fun _ => rfl)];exact Nat.le_refl _⟩,rfl⟩,⟨rfl,rfl,rfl⟩,by simp [idsC,idsS],by simp [idsC,idsS]⟩
 ·obtain ⟨x,hx⟩ := get_some hlt
  have h4 := inc64 hlt (by omega)
  have h2 := lt_t hlt
  have hs2 : digsB (L.take (s + 1)) = digsB (L.take s) ++ [x.1] := by unfold digsB;rw [List.take_add_one,hx,List.map_append];rfl
  have h8 : ((s + 1) * 16 ≤ 140737488355328) = True := by rw [eq_iff_iff,iff_true];omega
  have hlen : (digsB (L.take s)).length = s := by unfold digsB;rw [List.length_map,List.length_take];omega
  have h5 : decide (over - sumSz (L.take s) ≤ 0) = false := dcF (by omega)
  have hsn := sum_snoc hx
  have hsb := sum_le (fun b hb => (hLS.out b hb).1) s
  have hxs := hLS.out x (List.mem_of_getElem? hx)
  have hw : IntKind.i64.wrap (over - sumSz (L.take s) - x.2.1) = over - sumSz (L.take (s + 1)) := by
   have := hOV.out
   rw [hsn,wrap64 (by omega) (by omega)];omega
  have hall2 : ∀ m,m < s + 1 → 0 < over - sumSz (L.take m) := fun m hm => by
   rcases Nat.lt_succ_iff_lt_or_eq.1 hm with h | rfl
   ·exact hall m h
   ·exact hpos
  have hAll := hide hall2
  clear hall hall2 hsn hsb hxs hpos
  generalize hm : digsB (L.take s) = mm at hs2 hlen ⊢
  repeat' (first
   | (simp -implicitDefEqProofs only [*,List.getElem?_map,Option.map_some,fBlob,zr,Nat.reduceAdd,Nat.reduceSub,Nat.reduceMul,Nat.reduceLT,Nat.reduceLeDiff,Nat.reduceEqDiff,Nat.reduceBEq,reduceIte,reduceCtorEq,Int.reduceLE,Int.reduceLT,Int.reduceToNat,Int.reduceEq,Int.reduceNe])
   | ((first|apply zk0|apply zk1|apply zk2|apply zk3|apply zk4|apply zk5|apply zk6|apply zk7|apply zk8|apply zk9) <;> intro hc)
   |(refine callP0 rfl ?_)
   |(refine callD0 rfl ?_)
   | fail)
  refine ⟨s + 1,⟨hlt,hAll.out⟩,by omega,?_⟩
  rw [hs2]
  refine wk_i ?_ ?_ <;> simp only [List.length_append,zw,Nat.reduceEqDiff,Nat.reduceBEq,Nat.reduceLT,Nat.reduceLeDiff,reduceIte,reduceCtorEq]
  exact SlotsOk.of_eq (by simp)
theorem riseB_of {l : List Blob} (h : Rising (fun b : Blob => b.1) l) : RiseB l := by
 refine List.pairwise_iff_getElem.2 fun i j hi hj hij => ?_
 exact h i j _ _ hij (List.getElem?_eq_getElem hi) (List.getElem?_eq_getElem hj)
end Go.Proofs.YtanhelgblnmdcaaDoor
