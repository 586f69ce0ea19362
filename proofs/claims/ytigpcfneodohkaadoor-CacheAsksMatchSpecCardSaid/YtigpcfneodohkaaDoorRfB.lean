/-
  The reference's drop, space. No statement of the seat is proved here; no conditions.
-/
import Derived.Test.YtigpcfneodohkaaDoorRfA
import Derived.Test.YtigpcfneodohkaaDoorShK
namespace Go.Proofs.YtigpcfneodohkaaDoor
open Go.RowKit Go.Shelf
set_option linter.unusedVariables false
set_option linter.unusedSimpArgs false
set_option maxRecDepth 100000

theorem row_take {α : Type} {enc : α → List FV} {sz : Nat} (hs : ∀ x, (enc x).length = sz) : ∀ (l : List α) (k : Nat), (rowF enc l).take (k * sz) = rowF enc (l.take k)
  | [], k => by simp [rowF]
  | x :: l, 0 => by simp [rowF]
  | x :: l, k + 1 => by
    rw [List.take_succ_cons, row_cons, row_cons, Nat.add_mul, Nat.one_mul, Nat.add_comm, ← hs x, List.take_length_add_append, hs x, row_take hs l k]
theorem row_drop {α : Type} {enc : α → List FV} {sz : Nat} (hs : ∀ x, (enc x).length = sz) : ∀ (l : List α) (k : Nat), (rowF enc l).drop (k * sz) = rowF enc (l.drop k)
  | [], k => by simp [rowF]
  | x :: l, 0 => by simp [rowF]
  | x :: l, k + 1 => by
    rw [List.drop_succ_cons, row_cons, Nat.add_mul, Nat.one_mul, Nat.add_comm, ← hs x, List.drop_length_add_append, hs x, row_drop hs l k]
theorem fz_pc {H : Heap} {id ver v1 v2 i1 i2 : Nat} {room lease : Int} {bl : List Blob} {en : List Entry} (hc : cellsOf ver (H id) = some [.f (.int .i64 room), .f (.int .i64 lease), .sl i1 v1 5 0 bl.length, .sl i2 v2 3 0 en.length]) (h1 : cellsOf v1 (H i1) = some ((rowF fBlob bl).map .f)) (h2 : cellsOf v2 (H i2) = some ((rowF fEntry en).map .f)) : FzOk H (.ptr id ver 0) (.f (pCache (room, lease, bl, en))) := by
  refine fz_ptr0 hc rfl ?_
  show SlotsOk _ _ _ [_, _, _, _] [.f (.int .i64 room), .f (.int .i64 lease), .f (frBlobs bl), .f (frEntries en)]
  rw [so_cons, so_cons, so_cons, so_cons, so_nil]
  exact ⟨so_f, so_f, so_row0 (enc := fBlob) (fun _ => rfl) rfl h1 rfl, so_row0 (enc := fEntry) (fun _ => rfl) rfl h2 rfl, trivial⟩
theorem dropR_f (room lease : Int) (bl : List Blob) (en : List Entry) (d : ByteArray) (k : Nat) (hb : bl.length ≤ 1000000) (hk : k < bl.length) (hd : firstK (fun b : Blob => b.1) bl d = (k : Int)) :
    FRetP Tryd.prog 68 [.v (.int .i64 room), .v (.int .i64 lease), .own 5 bl.length (rowF fBlob bl), .own 3 en.length (rowF fEntry en)] [] [.f (.str d)]
      [.v (.int .i64 room), .v (.int .i64 lease), .own 5 (bl.eraseIdx k).length (rowF fBlob (bl.eraseIdx k)), .own 3 en.length (rowF fEntry en)] [] := by
  have hB := blobR_f (room, lease, bl, en) d (by show (bl.length : Int) ≤ _; omega)
  rw [show firstK (fun b : Blob => b.1) (room, lease, bl, en).2.2.1 d = (k : Int) from hd] at hB
  refine FCall.of_ax low_ref7_drop ?_
  dsimp only [l_ref7_drop]
  refine srun_sound 300 _ _ _ _ ?_
  repeat' (first
    | (simp -implicitDefEqProofs only [*, zr, Nat.reduceAdd, Nat.reduceSub, Nat.reduceMul, Nat.reduceLT, Nat.reduceLeDiff, Nat.reduceEqDiff, Nat.reduceBEq, reduceIte, reduceCtorEq, Int.reduceLE, Int.reduceLT, Int.reduceToNat, Int.reduceEq, Int.reduceNe])
    | ((first | apply zk0 | apply zk1 | apply zk2 | apply zk3 | apply zk4 | apply zk5 | apply zk6 | apply zk7 | apply zk8 | apply zk9) <;> intro hc)
    | (refine callP0 rfl ?_)
    | (refine callD0 rfl ?_)
    | fail)
  refine callG rfl hB rfl ?_ (by simp [RS.all, RC.all, FV.plain]) (by first | exact free_mk rfl | exact free_mk (by simp) | (repeat (first | exact free_0 | exact free_mk rfl | exact free_mk (by simp) | refine free_upd rfl ?_ | refine free_kill ?_))) ?_
  · exact ⟨fz_pc rfl rfl rfl, fz_f, trivial⟩
  have kl : (rowF fBlob bl).length = bl.length * 5 := row_len (sz := 5) (fun _ => rfl)
  obtain ⟨T1, hT1⟩ : ∃ T, List.take (k * 5) ((rowF fBlob bl).map AV.f) = T := ⟨_, rfl⟩
  obtain ⟨T2, hT2⟩ : ∃ T, List.take ((bl.length - (k + 1)) * 5) (List.drop ((k + 1) * 5) ((rowF fBlob bl).map AV.f)) = T := ⟨_, rfl⟩
  have k1 : T1 = (rowF fBlob (bl.take k)).map AV.f := by rw [← hT1, ← List.map_take, row_take (sz := 5) (fun _ => rfl)]
  have k2 : T2 = (rowF fBlob (bl.drop (k + 1))).map AV.f := by
    rw [← hT2, ← List.map_drop, row_drop (sz := 5) (fun _ => rfl), List.take_of_length_le]
    rw [List.length_map, row_len (sz := 5) (fun _ => rfl), List.length_drop]; exact Nat.le_refl _
  have k3 : T1.length = k * 5 := by rw [k1, List.length_map, row_len (sz := 5) (fun _ => rfl), List.length_take]; omega
  have h1 : ((k : Int) ≤ (bl.length : Int)) = True := by rw [eq_iff_iff, iff_true]; omega
  have h2 : IntKind.i64.wrap ((k : Int) + 1) = ((k + 1 : Nat) : Int) := by rw [wrap64] <;> omega
  have h3 : (((k + 1 : Nat) : Int) ≤ (bl.length : Int)) = True := by rw [eq_iff_iff, iff_true]; omega
  have h4 : ((bl.length : Int) ≤ (bl.length : Int)) = True := by rw [eq_iff_iff, iff_true]; omega
  have h5 : (k * 5 ≤ bl.length * 5) = True := by rw [eq_iff_iff, iff_true]; omega
  have h6 : ((k + 1 + (bl.length - (k + 1))) * 5 ≤ bl.length * 5) = True := by rw [eq_iff_iff, iff_true]; omega
  have h7 : (k * 48 ≤ 140737488355328) = True := by rw [eq_iff_iff, iff_true]; omega
  have h8 : ((bl.length - 1) * 48 ≤ 140737488355328) = True := by rw [eq_iff_iff, iff_true]; omega
  have h9 : k + (bl.length - (k + 1)) = bl.length - 1 := by omega
  replace k1 := hide k1
  replace k2 := hide k2
  clear hd hB
  repeat' (first
    | (simp -implicitDefEqProofs only [*, List.length_map, Nat.sub_zero, zr, Nat.reduceAdd, Nat.reduceSub, Nat.reduceMul, Nat.reduceLT, Nat.reduceLeDiff, Nat.reduceEqDiff, Nat.reduceBEq, reduceIte, reduceCtorEq, Int.reduceLE, Int.reduceLT, Int.reduceToNat, Int.reduceEq, Int.reduceNe])
    | ((first | apply zk0 | apply zk1 | apply zk2 | apply zk3 | apply zk4 | apply zk5 | apply zk6 | apply zk7 | apply zk8 | apply zk9) <;> intro hc)
    | (refine callP0 rfl ?_)
    | (refine callD0 rfl ?_)
    | fail)
  have e1 : (bl.eraseIdx k).length = bl.length - 1 := by rw [List.length_eraseIdx]; simp [hk]
  have e2 : rowF fBlob (bl.eraseIdx k) = rowF fBlob (bl.take k) ++ rowF fBlob (bl.drop (k + 1)) := by rw [List.eraseIdx_eq_take_drop_succ, row_app]
  refine ⟨[], [.f (.int .i64 room), .f (.int .i64 lease), .sl 16 2 5 0 (bl.length - 1), .sl 81000 1 3 0 en.length], rfl, rfl, ⟨rfl, rfl, .inr ⟨16, 2, by rw [e1], ?_, by rw [row_len (sz := 5) (fun _ => rfl)]; exact Nat.le_refl _⟩, .inr ⟨81000, 1, rfl, rfl, by rw [row_len (sz := 3) (fun _ => rfl)]; exact Nat.le_refl _⟩, rfl⟩, rfl, by simp [idsC, idsS], by simp [idsC, idsS]⟩
  rw [e2, List.map_append, ← k1.out, ← k2.out]
  rfl
/-! ### Plain: what stays behind some -/
def goneTo (bl L : List Blob) (s : Nat) : List Blob := keepL (fun b : Blob => hasS b.1 (digsB (L.take s))) bl
theorem goneTo_0 {bl L : List Blob} : goneTo bl L 0 = bl := by
  unfold goneTo keepL
  rw [List.filter_eq_self]
  intro a _; rfl
theorem erase_keep {l : List Blob} (h : RiseB l) {k : Nat} {x : Blob} (hx : l[k]? = some x) : l.eraseIdx k = l.filter fun b => decide (b.1 ≠ x.1) := by
  obtain ⟨hk, he⟩ := List.getElem?_eq_some_iff.1 hx
  have hsp : l = l.take k ++ x :: l.drop (k + 1) := by
    conv => lhs; rw [← List.take_append_drop k l, List.drop_eq_getElem_cons hk, he]
  have h2 := h
  unfold RiseB at h2
  rw [hsp] at h2
  obtain ⟨h3, h4, h5⟩ := List.pairwise_append.1 h2
  rw [List.eraseIdx_eq_take_drop_succ]
  conv => rhs; rw [hsp]
  rw [List.filter_append, List.filter_cons_of_neg (by simp), List.filter_eq_self.2, List.filter_eq_self.2]
  · intro a ha
    have := (List.pairwise_cons.1 h4).1 a ha
    exact decide_eq_true fun e => strLt_ne this e.symm
  · intro a ha
    exact decide_eq_true (strLt_ne (h5 a ha x (List.mem_cons_self ..)))
theorem goneTo_s {bl L : List Blob} {s : Nat} {x : Blob} (hx : L[s]? = some x) : goneTo bl L (s + 1) = (goneTo bl L s).filter fun b => decide (b.1 ≠ x.1) := by
  unfold goneTo keepL
  rw [List.filter_filter]
  refine List.filter_congr fun b _ => ?_
  have e : digsB (L.take (s + 1)) = digsB (L.take s) ++ [x.1] := by unfold digsB; rw [List.take_add_one, hx, List.map_append]; rfl
  have hap : hasS b.1 (digsB (L.take s) ++ [x.1]) = (hasS b.1 (digsB (L.take s)) || decide (x.1 = b.1)) := by simp [hasS]
  show (!hasS b.1 (digsB (L.take (s + 1)))) = (decide (b.1 ≠ x.1) && !hasS b.1 (digsB (L.take s)))
  rw [e, hap]
  by_cases h : b.1 = x.1
  · rw [decide_eq_true h.symm, decide_eq_false (fun h2 => h2 h)]; simp
  · rw [decide_eq_false (fun h2 => h h2.symm), decide_eq_true h]; simp
theorem goneTo_rise {bl L : List Blob} {s : Nat} (h : RiseB bl) : RiseB (goneTo bl L s) := keepL_rise h
theorem goneTo_len {bl L : List Blob} {s : Nat} : (goneTo bl L s).length ≤ bl.length := List.length_filter_le _ _
theorem goneTo_at {bl : List Blob} {at_ : Int} {s : Nat} {x : Blob} (h : RiseB bl) (hx : (leavV bl at_)[s]? = some x) : x ∈ goneTo bl (leavV bl at_) s := by
  unfold goneTo
  rw [mem_keepL]
  have hm := List.mem_of_getElem? hx
  refine ⟨(leav_mem.1 hm).1, ?_⟩
  cases h1 : hasS x.1 (digsB ((leavV bl at_).take s))
  · rfl
  · exfalso
    obtain ⟨y, hy, he⟩ := List.mem_map.1 (hasS_iff.1 h1)
    have hyl := List.mem_of_mem_take hy
    have hyx : y = x := h.inj (leav_mem.1 hyl).1 (leav_mem.1 hm).1 he
    subst hyx
    obtain ⟨i, hi⟩ := List.mem_iff_getElem?.1 hy
    rw [List.getElem?_take] at hi
    split at hi
    · rename_i his
      have hnd := leav_nodup (at_ := at_) h
      obtain ⟨b1, b2⟩ := List.getElem?_eq_some_iff.1 hi
      obtain ⟨c1, c2⟩ := List.getElem?_eq_some_iff.1 hx
      have := (List.nodup_iff_pairwise_ne.1 hnd)
      exact (List.pairwise_iff_getElem.1 this i s b1 c1 his) (by rw [b2, c2])
    · cases hi
theorem goneTo_sum {bl : List Blob} {at_ : Int} {s : Nat} (h : RiseB bl) : sumSz (goneTo bl (leavV bl at_) s) = sumSz bl - sumSz ((leavV bl at_).take s) := by
  have h1 := sum_split (fun b : Blob => hasS b.1 (digsB ((leavV bl at_).take s))) bl
  have h2 := sum_perm (gone_perm h ((leav_nodup (at_ := at_) h).sublist (List.take_sublist s _)) fun b hb => (leav_mem.1 (List.mem_of_mem_take hb)).1)
  unfold goneTo; omega
theorem goneTo_drop {bl : List Blob} {at_ : Int} {s : Nat} {x : Blob} (h : RiseB bl) (hx : (leavV bl at_)[s]? = some x) :
    ∃ k, k < (goneTo bl (leavV bl at_) s).length ∧ firstK (fun b : Blob => b.1) (goneTo bl (leavV bl at_) s) x.1 = (k : Int) ∧ (goneTo bl (leavV bl at_) s).eraseIdx k = goneTo bl (leavV bl at_) (s + 1) := by
  obtain ⟨k, hk⟩ := List.mem_iff_getElem?.1 (goneTo_at h hx)
  have hr := goneTo_rise (L := leavV bl at_) (s := s) h
  refine ⟨k, (List.getElem?_eq_some_iff.1 hk).1, firstK_hit (fun m y hm hy => ?_) hk rfl, ?_⟩
  · exact strLt_ne (hr.lt hm hy hk)
  · rw [erase_keep hr hk, goneTo_s hx]
/-- What stays anyway. -/
def stayTo (bl : List Blob) (at_ : Int) (s : Nat) : Int := sumSz ((bl.take s).filter fun b => heldB b at_)
theorem stay_s {bl : List Blob} {at_ : Int} {s : Nat} {x : Blob} (hx : bl[s]? = some x) : stayTo bl at_ (s + 1) = stayTo bl at_ s + if heldB x at_ = true then x.2.1 else 0 := by
  unfold stayTo
  rw [List.take_add_one, hx, List.filter_append, sum_append]
  cases h : heldB x at_ <;> simp [h, sumSz]
theorem stay_leav {bl : List Blob} {at_ : Int} : stayTo bl at_ bl.length + sumSz (leavV bl at_) = sumSz bl := by
  have h1 := sum_split (fun b : Blob => heldB b at_) bl
  have h2 := sum_perm (sortT_perm ltB (keepL (fun b : Blob => heldB b at_) bl))
  unfold stayTo leavV
  rw [List.take_length, h2]; omega
end Go.Proofs.YtigpcfneodohkaaDoor
