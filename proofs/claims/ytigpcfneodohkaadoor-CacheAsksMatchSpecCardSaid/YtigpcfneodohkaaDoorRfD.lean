/-
  The reference's Next, Whole, Fits, Shrunk. No statement of the seat is proved here; no conditions.
-/
import Derived.Test.YtigpcfneodohkaaDoorRfC
namespace Go.Proofs.YtigpcfneodohkaaDoor
open Go.RowKit Go.Shelf
set_option linter.unusedVariables false
set_option linter.unusedSimpArgs false
set_option maxRecDepth 100000

theorem entryR_f (c : Cache) (t : ByteArray) (hl : (c.2.2.2.length : Int) ≤ 9223372036854775807) : FRet Tryd.prog 34 [.f (pCache c), .f (.str t)] [.c (.v (.int .i64 (firstK (fun b : Entry => b.1) c.2.2.2 t)))] := by
  obtain ⟨room, lease, bl, en⟩ := c
  simp only at hl ⊢
  refine FCall.of_ax low_ref7_entry ?_
  dsimp only [l_ref7_entry, pCache]
  refine srun_sound 300 _ _ _ _ ?_
  repeat' (first
    | (simp -implicitDefEqProofs only [*, frBlobs, frEntries, zr, Nat.reduceAdd, Nat.reduceSub, Nat.reduceMul, Nat.reduceLT, Nat.reduceLeDiff, Nat.reduceEqDiff, Nat.reduceBEq, reduceIte, reduceCtorEq, Int.reduceLE, Int.reduceLT, Int.reduceToNat, Int.reduceEq, Int.reduceNe])
    | ((first | apply zk0 | apply zk1 | apply zk2 | apply zk3 | apply zk4 | apply zk5 | apply zk6 | apply zk7 | apply zk8 | apply zk9) <;> intro hc)
    | (refine callP0 rfl ?_)
    | (refine callD0 rfl ?_)
    | fail)
  refine ax_loopU (S := Nat) 26 [0, 1] [] (fun s => [(5, .f (.int .i64 s))]) (fun s => []) (fun s => s ≤ en.length ∧ ∀ (m : Nat) y, m < s → en[m]? = some y → y.1 ≠ t) (fun s => en.length - s) (0) [] ?_ ?_ fun s hs => ?_
  · exact ⟨Nat.zero_le _, fun m y h => absurd h (by omega)⟩
  · refine wk_i ?_ ?_ <;> simp only [zw, Nat.reduceEqDiff, Nat.reduceBEq, Nat.reduceLT, Nat.reduceLeDiff, reduceIte, reduceCtorEq]
  obtain ⟨hi, hall⟩ := hs
  refine srun_sound 300 _ _ _ _ ?_
  rcases Nat.lt_or_ge s en.length with hlt | hge
  · obtain ⟨x, hx⟩ := get_some hlt
    have h4 := inc64 hlt hl
    have h2 := lt_t hlt
    obtain ⟨xd, xs, xu⟩ := x
    have hf := hide hall
    clear hall
    repeat' (first
      | (simp -implicitDefEqProofs only [*, List.getElem?_map, Option.map_some, fEntry, frStrs, zr, Nat.reduceAdd, Nat.reduceSub, Nat.reduceMul, Nat.reduceLT, Nat.reduceLeDiff, Nat.reduceEqDiff, Nat.reduceBEq, reduceIte, reduceCtorEq, Int.reduceLE, Int.reduceLT, Int.reduceToNat, Int.reduceEq, Int.reduceNe])
      | ((first | apply zk0 | apply zk1 | apply zk2 | apply zk3 | apply zk4 | apply zk5 | apply zk6 | apply zk7 | apply zk8 | apply zk9) <;> intro hc)
      | (refine callP0 rfl ?_)
      | (refine callD0 rfl ?_)
      | fail)
    · exact ret_ve (by rw [firstK_hit hf.out hx (of_decide_eq_true hc)])
    · refine ⟨s + 1, ⟨hlt, fun m y hm hy => ?_⟩, by omega, ?_⟩
      · rcases Nat.lt_succ_iff_lt_or_eq.1 hm with h1 | rfl
        · exact hf.out m y h1 hy
        · rw [hx] at hy; obtain rfl := Option.some.inj hy; exact of_decide_eq_false hc
      · refine wk_i ?_ ?_ <;> simp only [zw, Nat.reduceEqDiff, Nat.reduceBEq, Nat.reduceLT, Nat.reduceLeDiff, reduceIte, reduceCtorEq]
  · obtain rfl : s = en.length := by omega
    have h2 := lt_f hge
    have h3 : firstK (fun b : Entry => b.1) en t = -1 := firstK_none fun m y hm => hall m y (List.getElem?_eq_some_iff.1 hm).1 hm
    clear hall
    repeat' (first
      | (simp -implicitDefEqProofs only [*, zr, Nat.reduceAdd, Nat.reduceSub, Nat.reduceMul, Nat.reduceLT, Nat.reduceLeDiff, Nat.reduceEqDiff, Nat.reduceBEq, reduceIte, reduceCtorEq, Int.reduceLE, Int.reduceLT, Int.reduceToNat, Int.reduceEq, Int.reduceNe])
      | ((first | apply zk0 | apply zk1 | apply zk2 | apply zk3 | apply zk4 | apply zk5 | apply zk6 | apply zk7 | apply zk8 | apply zk9) <;> intro hc)
      | (refine callP0 rfl ?_)
      | (refine callD0 rfl ?_)
      | fail)
    exact ret_v
theorem firstK_has {α : Type} {key : α → ByteArray} {l : List α} {t : ByteArray} (h : hasK key l t = true) : ∃ (i : Nat) (x : α), firstK key l t = (i : Int) ∧ l[i]? = some x ∧ key x = t := by
  obtain ⟨x, hx, he⟩ := List.any_eq_true.1 h
  cases hf : l.findIdx? (fun x => decide (key x = t)) with
  | none => rw [List.findIdx?_eq_none_iff] at hf; have h1 := hf x hx; rw [he] at h1; cases h1
  | some i =>
    obtain ⟨h1, h2, h3⟩ := List.findIdx?_eq_some_iff_getElem.1 hf
    exact ⟨i, l[i], by rw [firstK, hf], List.getElem?_eq_getElem h1, by simpa using h2⟩
theorem firstK_hasnt {α : Type} {key : α → ByteArray} {l : List α} {t : ByteArray} (h : hasK key l t = false) : firstK key l t = -1 := firstK_none fun m y hm he => by
  have h1 := List.any_eq_false.1 h y (List.mem_of_getElem? hm)
  simp [he] at h1
theorem fz_box {H : Heap} {id ver : Nat} {room lease : Int} {bl : List Blob} {en : List Entry} (hc : cellsOf ver (H id) = some [.f (.int .i64 room), .f (.int .i64 lease), .f (frBlobs bl), .f (frEntries en)]) : FzOk H (.ptr id ver 0) (.f (pCache (room, lease, bl, en))) := by
  refine fz_ptr0 hc rfl ?_
  show SlotsOk _ _ _ [_, _, _, _] [.f (.int .i64 room), .f (.int .i64 lease), .f (frBlobs bl), .f (frEntries en)]
  rw [so_cons, so_cons, so_cons, so_cons, so_nil]
  exact ⟨so_f, so_f, so_f, so_f, trivial⟩
def nextRs (c : Cache) (at_ : Int) : List RS :=
  if atE c at_ ≠ 0 then [.c (.own 1 0 []), .c (.v (.int .i64 (atE c at_)))]
  else [.c (.own 1 (leavV c.2.2.1 at_).length ((digsB (leavV c.2.2.1 at_)).map .str)), .c (.v (.int .i64 0))]
theorem NextR_f (c : Cache) (at_ : Int) (hb : SBound c) : FRet Tryd.prog 13 [aCache c, .f (.int .i64 at_)] (nextRs c at_) := by
  have hok := fun h : ckCache c = 0 => cok_of h
  have hck := CheckCacheR_f c hb
  have hw := withinR_f at_ 0 1000000000
  unfold nextRs
  have hE : atE c at_ = if ckCache c ≠ 0 then ckCache c else if inRg at_ 0 1000000000 = true then 0 else 1 := rfl
  generalize atE c at_ = er at hE ⊢
  obtain ⟨room, lease, bl, en⟩ := c
  simp only at hok hE ⊢
  refine FCall.of_ax low_ref7_Next ?_
  dsimp only [l_ref7_Next, aCache] at hck ⊢
  refine srun_sound 300 _ _ _ _ ?_
  by_cases h0 : ckCache (room, lease, bl, en) = 0
  case neg =>
    have hd : decide (ckCache (room, lease, bl, en) = 0) = false := by simpa using h0
    rw [if_pos h0] at hE
    subst hE
    rw [if_pos h0]
    generalize ckCache (room, lease, bl, en) = e at *
    clear hok h0
    repeat' (first
      | (simp -implicitDefEqProofs only [*, zr, Nat.reduceAdd, Nat.reduceSub, Nat.reduceMul, Nat.reduceLT, Nat.reduceLeDiff, Nat.reduceEqDiff, Nat.reduceBEq, reduceIte, reduceCtorEq, Int.reduceLE, Int.reduceLT, Int.reduceToNat, Int.reduceEq, Int.reduceNe])
      | ((first | apply zk0 | apply zk1 | apply zk2 | apply zk3 | apply zk4 | apply zk5 | apply zk6 | apply zk7 | apply zk8 | apply zk9) <;> intro hc)
      | (refine callP0 rfl ?_)
      | (refine callD0 rfl ?_)
      | (refine cP (hck) ?_)
      | (refine cD (hck) ?_)
      | (refine cF (hck) ?_)
      | (refine cO (hck) ?_)
      | fail)
    exact ret_onv rfl rfl rfl
  have hO := hok h0
  rw [if_neg (fun h => h h0)] at hE
  rw [h0] at hck
  clear hok h0
  cases h1 : inRg at_ 0 1000000000
  · rw [h1] at hw hE
    rw [if_neg (by decide)] at hE
    subst hE
    rw [if_pos (by decide)]
    clear hO h1
    repeat' (first
      | (simp -implicitDefEqProofs only [*, zr, Nat.reduceAdd, Nat.reduceSub, Nat.reduceMul, Nat.reduceLT, Nat.reduceLeDiff, Nat.reduceEqDiff, Nat.reduceBEq, reduceIte, reduceCtorEq, Int.reduceLE, Int.reduceLT, Int.reduceToNat, Int.reduceEq, Int.reduceNe])
      | ((first | apply zk0 | apply zk1 | apply zk2 | apply zk3 | apply zk4 | apply zk5 | apply zk6 | apply zk7 | apply zk8 | apply zk9) <;> intro hc)
      | (refine callP0 rfl ?_)
      | (refine callD0 rfl ?_)
      | (refine cP (hck) ?_)
      | (refine cD (hck) ?_)
      | (refine cF (hck) ?_)
      | (refine cO (hck) ?_)
      | (refine cP (hw) ?_)
      | (refine cD (hw) ?_)
      | (refine cF (hw) ?_)
      | (refine cO (hw) ?_)
      | fail)
    exact ret_onv rfl rfl rfl
  rw [h1] at hw hE
  rw [if_pos rfl] at hE
  subst hE
  rw [if_neg (by decide)]
  have hrow := rowR_f (room, lease, bl, en) at_ (by have := hO.blen; show bl.length ≤ 1000000; simp only at this; omega) (riseB_of hO.rb)
  simp only at hrow
  clear hO h1
  repeat' (first
    | (simp -implicitDefEqProofs only [*, zr, Nat.reduceAdd, Nat.reduceSub, Nat.reduceMul, Nat.reduceLT, Nat.reduceLeDiff, Nat.reduceEqDiff, Nat.reduceBEq, reduceIte, reduceCtorEq, Int.reduceLE, Int.reduceLT, Int.reduceToNat, Int.reduceEq, Int.reduceNe])
    | ((first | apply zk0 | apply zk1 | apply zk2 | apply zk3 | apply zk4 | apply zk5 | apply zk6 | apply zk7 | apply zk8 | apply zk9) <;> intro hc)
    | (refine callP0 rfl ?_)
    | (refine callD0 rfl ?_)
    | (refine cP (hck) ?_)
    | (refine cD (hck) ?_)
    | (refine cF (hck) ?_)
    | (refine cO (hck) ?_)
    | (refine cP (hw) ?_)
    | (refine cD (hw) ?_)
    | (refine cF (hw) ?_)
    | (refine cO (hw) ?_)
    | fail)
  refine callG rfl hrow rfl ?_ (by simp [RS.all, RC.all, FV.plain, digsB]) (by first | exact free_mk rfl | exact free_mk (by simp) | (repeat (first | exact free_0 | exact free_mk rfl | exact free_mk (by simp) | refine free_upd rfl ?_ | refine free_kill ?_))) ?_
  · exact ⟨fz_box rfl, fz_f, trivial⟩
  repeat' (first
    | (simp -implicitDefEqProofs only [*, zr, Nat.reduceAdd, Nat.reduceSub, Nat.reduceMul, Nat.reduceLT, Nat.reduceLeDiff, Nat.reduceEqDiff, Nat.reduceBEq, reduceIte, reduceCtorEq, Int.reduceLE, Int.reduceLT, Int.reduceToNat, Int.reduceEq, Int.reduceNe])
    | ((first | apply zk0 | apply zk1 | apply zk2 | apply zk3 | apply zk4 | apply zk5 | apply zk6 | apply zk7 | apply zk8 | apply zk9) <;> intro hc)
    | (refine callP0 rfl ?_)
    | (refine callD0 rfl ?_)
    | fail)
  exact ret_ov rfl (by simp [digsB]) rfl
theorem wholeV_at {c : Cache} {key : ByteArray} {e : Entry} (hr : Rising (fun b : Entry => b.1) c.2.2.2) (hm : e ∈ c.2.2.2) (he : e.1 = key) : wholeV c key = decide ((missingOf c.2.2.1 e.2.1).length = 0) := by
  rw [Bool.eq_iff_iff, wholeV_iff hr, decide_eq_true_eq]
  constructor
  · rintro ⟨e', h1, h2, h3⟩
    have := rising_inj hr e hm e' h1 (by rw [he, h2])
    rw [this]; exact h3
  · intro h; exact ⟨e, hm, he, h⟩
theorem wholeV_none {c : Cache} {key : ByteArray} (h : hasE c.2.2.2 key = false) : wholeV c key = false := by
  unfold wholeV; simp only [h, Bool.false_and]; split <;> rfl
theorem WholeR_f (c : Cache) (key : ByteArray) (hb : SBound c) (hk : (key.size : Int) ≤ 9223372036854775807) : FRet Tryd.prog 12 [aCache c, .f (.str key)] [.c (.v (.bool (if wholeErr c key = 0 then wholeV c key else false))), .c (.v (.int .i64 (wholeErr c key)))] := by
  have hok := fun h : ckCache c = 0 => cok_of h
  have hck := CheckCacheR_f c hb
  have hdg := isDigestR_f key hk
  have hen := entryR_f c key hb.1.2.1
  have hE : wholeErr c key = if ckCache c ≠ 0 then ckCache c else if isDig key = true then 0 else 3 := rfl
  have hn : hasE c.2.2.2 key = false → wholeV c key = false := wholeV_none
  have hy : ∀ e, Rising (fun b : Entry => b.1) c.2.2.2 → e ∈ c.2.2.2 → e.1 = key → wholeV c key = decide ((missingOf c.2.2.1 e.2.1).length = 0) := fun e h1 h2 h3 => wholeV_at h1 h2 h3
  generalize wholeErr c key = er at hE ⊢
  generalize wholeV c key = wv at hn hy ⊢
  obtain ⟨room, lease, bl, en⟩ := c
  simp only at hok hE hn hy hen ⊢
  refine FCall.of_ax low_ref7_Whole ?_
  dsimp only [l_ref7_Whole, aCache] at hck ⊢
  refine srun_sound 300 _ _ _ _ ?_
  by_cases h0 : ckCache (room, lease, bl, en) = 0
  case neg =>
    have hd : decide (ckCache (room, lease, bl, en) = 0) = false := by simpa using h0
    rw [if_pos h0] at hE
    subst hE
    rw [if_neg h0]
    generalize ckCache (room, lease, bl, en) = e at *
    clear hok h0 hn hy
    repeat' (first
      | (simp -implicitDefEqProofs only [*, zr, Nat.reduceAdd, Nat.reduceSub, Nat.reduceMul, Nat.reduceLT, Nat.reduceLeDiff, Nat.reduceEqDiff, Nat.reduceBEq, reduceIte, reduceCtorEq, Int.reduceLE, Int.reduceLT, Int.reduceToNat, Int.reduceEq, Int.reduceNe])
      | ((first | apply zk0 | apply zk1 | apply zk2 | apply zk3 | apply zk4 | apply zk5 | apply zk6 | apply zk7 | apply zk8 | apply zk9) <;> intro hc)
      | (refine callP0 rfl ?_)
      | (refine callD0 rfl ?_)
      | (refine cP (hck) ?_)
      | (refine cD (hck) ?_)
      | (refine cF (hck) ?_)
      | (refine cO (hck) ?_)
      | fail)
    exact ret_vv
  have hO := hok h0
  rw [if_neg (fun h => h h0)] at hE
  rw [h0] at hck
  clear hok h0
  cases h1 : isDig key
  · rw [h1] at hdg hE
    rw [if_neg (by decide)] at hE
    subst hE
    rw [if_neg (by decide)]
    clear hO h1 hn hy
    repeat' (first
      | (simp -implicitDefEqProofs only [*, zr, Nat.reduceAdd, Nat.reduceSub, Nat.reduceMul, Nat.reduceLT, Nat.reduceLeDiff, Nat.reduceEqDiff, Nat.reduceBEq, reduceIte, reduceCtorEq, Int.reduceLE, Int.reduceLT, Int.reduceToNat, Int.reduceEq, Int.reduceNe])
      | ((first | apply zk0 | apply zk1 | apply zk2 | apply zk3 | apply zk4 | apply zk5 | apply zk6 | apply zk7 | apply zk8 | apply zk9) <;> intro hc)
      | (refine callP0 rfl ?_)
      | (refine callD0 rfl ?_)
      | (refine cP (hck) ?_)
      | (refine cD (hck) ?_)
      | (refine cF (hck) ?_)
      | (refine cO (hck) ?_)
      | (refine cP (hdg) ?_)
      | (refine cD (hdg) ?_)
      | (refine cF (hdg) ?_)
      | (refine cO (hdg) ?_)
      | fail)
    exact ret_vv
  rw [h1] at hdg hE
  rw [if_pos rfl] at hE
  subst hE
  rw [if_pos rfl]
  have hl3 : (bl.length : Int) ≤ 9223372036854775807 := by have := hO.blen; simp only at this; omega
  cases hh : hasE en key
  · rw [hn hh]
    rw [firstK_hasnt hh] at hen
    have d0 : decide ((-1 : Int) ≥ 0) = false := rfl
    have d1 : decide ((0 : Int) ≤ -1) = false := rfl
    clear hO h1 hn hy hh
    repeat' (first
      | (simp -implicitDefEqProofs only [*, zr, Nat.reduceAdd, Nat.reduceSub, Nat.reduceMul, Nat.reduceLT, Nat.reduceLeDiff, Nat.reduceEqDiff, Nat.reduceBEq, reduceIte, reduceCtorEq, Int.reduceLE, Int.reduceLT, Int.reduceToNat, Int.reduceEq, Int.reduceNe])
      | ((first | apply zk0 | apply zk1 | apply zk2 | apply zk3 | apply zk4 | apply zk5 | apply zk6 | apply zk7 | apply zk8 | apply zk9) <;> intro hc)
      | (refine callP0 rfl ?_)
      | (refine callD0 rfl ?_)
      | (refine cP (hck) ?_)
      | (refine cD (hck) ?_)
      | (refine cF (hck) ?_)
      | (refine cO (hck) ?_)
      | (refine cP (hdg) ?_)
      | (refine cD (hdg) ?_)
      | (refine cF (hdg) ?_)
      | (refine cO (hdg) ?_)
      | fail)
    refine callG rfl hen rfl ?_ (by simp [RS.all, RC.all, FV.plain]) (by first | exact free_mk rfl | exact free_mk (by simp) | (repeat (first | exact free_0 | exact free_mk rfl | exact free_mk (by simp) | refine free_upd rfl ?_ | refine free_kill ?_))) ?_
    · exact ⟨fz_box rfl, fz_f, trivial⟩
    repeat' (first
      | (simp -implicitDefEqProofs only [*, zr, Nat.reduceAdd, Nat.reduceSub, Nat.reduceMul, Nat.reduceLT, Nat.reduceLeDiff, Nat.reduceEqDiff, Nat.reduceBEq, reduceIte, reduceCtorEq, Int.reduceLE, Int.reduceLT, Int.reduceToNat, Int.reduceEq, Int.reduceNe])
      | ((first | apply zk0 | apply zk1 | apply zk2 | apply zk3 | apply zk4 | apply zk5 | apply zk6 | apply zk7 | apply zk8 | apply zk9) <;> intro hc)
      | (refine callP0 rfl ?_)
      | (refine callD0 rfl ?_)
      | fail)
    exact ret_vv
  · obtain ⟨i, e, hf, hx, hek⟩ := firstK_has hh
    rw [hy e hO.re (List.mem_of_getElem? hx) hek]
    rw [hf] at hen
    have hxr : e.2.1.length ≤ 200 := hO.refs e (List.mem_of_getElem? hx)
    have hlt := (List.getElem?_eq_some_iff.1 hx).1
    have hm := missingR_f (room, lease, bl, en) e.2.1 hl3 (by omega)
    have d0 : decide ((i : Int) ≥ 0) = true := dcT (by omega)
    have d1 : decide ((0 : Int) ≤ (i : Int)) = true := dcT (by omega)
    have hz : (decide ((missingOf bl e.2.1).length = 0)) = decide (((missingOf bl e.2.1).length : Int) = 0) := by
      rw [decide_eq_decide]; omega
    rw [hz]
    clear hO h1 hn hy hh hf hek hxr hz
    repeat' (first
      | (simp -implicitDefEqProofs only [*, zr, Nat.reduceAdd, Nat.reduceSub, Nat.reduceMul, Nat.reduceLT, Nat.reduceLeDiff, Nat.reduceEqDiff, Nat.reduceBEq, reduceIte, reduceCtorEq, Int.reduceLE, Int.reduceLT, Int.reduceToNat, Int.reduceEq, Int.reduceNe])
      | ((first | apply zk0 | apply zk1 | apply zk2 | apply zk3 | apply zk4 | apply zk5 | apply zk6 | apply zk7 | apply zk8 | apply zk9) <;> intro hc)
      | (refine callP0 rfl ?_)
      | (refine callD0 rfl ?_)
      | (refine cP (hck) ?_)
      | (refine cD (hck) ?_)
      | (refine cF (hck) ?_)
      | (refine cO (hck) ?_)
      | (refine cP (hdg) ?_)
      | (refine cD (hdg) ?_)
      | (refine cF (hdg) ?_)
      | (refine cO (hdg) ?_)
      | fail)
    refine callG rfl hen rfl ?_ (by simp [RS.all, RC.all, FV.plain]) (by first | exact free_mk rfl | exact free_mk (by simp) | (repeat (first | exact free_0 | exact free_mk rfl | exact free_mk (by simp) | refine free_upd rfl ?_ | refine free_kill ?_))) ?_
    · exact ⟨fz_box rfl, fz_f, trivial⟩
    repeat' (first
      | (simp -implicitDefEqProofs only [*, frEntries, List.getElem?_map, Option.map_some, fEntry, zr, Nat.reduceAdd, Nat.reduceSub, Nat.reduceMul, Nat.reduceLT, Nat.reduceLeDiff, Nat.reduceEqDiff, Nat.reduceBEq, reduceIte, reduceCtorEq, Int.reduceLE, Int.reduceLT, Int.reduceToNat, Int.reduceEq, Int.reduceNe])
      | ((first | apply zk0 | apply zk1 | apply zk2 | apply zk3 | apply zk4 | apply zk5 | apply zk6 | apply zk7 | apply zk8 | apply zk9) <;> intro hc)
      | (refine callP0 rfl ?_)
      | (refine callD0 rfl ?_)
      | fail)
    refine callG rfl hm rfl ?_ (by simp [RS.all, RC.all, FV.plain]) (by first | exact free_mk rfl | exact free_mk (by simp) | (repeat (first | exact free_0 | exact free_mk rfl | exact free_mk (by simp) | refine free_upd rfl ?_ | refine free_kill ?_))) ?_
    · exact ⟨fz_box rfl, fz_f, trivial⟩
    repeat' (first
      | (simp -implicitDefEqProofs only [*, zr, Nat.reduceAdd, Nat.reduceSub, Nat.reduceMul, Nat.reduceLT, Nat.reduceLeDiff, Nat.reduceEqDiff, Nat.reduceBEq, reduceIte, reduceCtorEq, Int.reduceLE, Int.reduceLT, Int.reduceToNat, Int.reduceEq, Int.reduceNe])
      | ((first | apply zk0 | apply zk1 | apply zk2 | apply zk3 | apply zk4 | apply zk5 | apply zk6 | apply zk7 | apply zk8 | apply zk9) <;> intro hc)
      | (refine callP0 rfl ?_)
      | (refine callD0 rfl ?_)
      | fail)
    exact ret_vv
end Go.Proofs.YtigpcfneodohkaaDoor
