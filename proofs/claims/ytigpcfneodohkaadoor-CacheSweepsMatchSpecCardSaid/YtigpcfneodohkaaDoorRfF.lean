/-
  The reference's Swept. No statement of the seat is proved here; no conditions.
-/
import Derived.Test.YtigpcfneodohkaaDoorRfE
namespace Go.Proofs.YtigpcfneodohkaaDoor
open Go.RowKit Go.Shelf
set_option linter.unusedVariables false
set_option linter.unusedSimpArgs false
set_option maxRecDepth 100000

theorem hasR_f (l : List ByteArray) (t : ByteArray) (hl : l.length ≤ 1000000000) : FRet Tryd.prog 50 [.f (frStrs l), .f (.str t)] [.c (.v (.bool (hasS t l)))] := by
  refine FCall.of_ax low_ref7_has ?_
  dsimp only [l_ref7_has, frStrs]
  refine srun_sound 300 _ _ _ _ ?_
  repeat' (first
    | (simp -implicitDefEqProofs only [*, zr, Nat.reduceAdd, Nat.reduceSub, Nat.reduceMul, Nat.reduceLT, Nat.reduceLeDiff, Nat.reduceEqDiff, Nat.reduceBEq, reduceIte, reduceCtorEq, Int.reduceLE, Int.reduceLT, Int.reduceToNat, Int.reduceEq, Int.reduceNe])
    | ((first | apply condS_splitN | apply condS_split | apply guardS_splitTN | apply guardS_splitFN | apply guardD_splitTN | apply guardD_splitFN | apply guardS_splitT | apply guardS_splitF | apply guardD_splitT | apply guardD_splitF) <;> intro hc)
    | (refine callP0 rfl ?_)
    | (refine callD0 rfl ?_)
    | fail)
  refine ax_loopU (S := Nat) 18 [0, 1] [] (fun s => [(5, .f (.int .i64 s))]) (fun s => []) (fun s => s ≤ l.length ∧ ∀ (m : Nat) y, m < s → l[m]? = some y → y ≠ t) (fun s => l.length - s) (0) [] ?_ ?_ fun s hs => ?_
  · exact ⟨Nat.zero_le _, fun m y h => absurd h (by omega)⟩
  · refine ⟨rfl, (by first | exact small_0 | exact small_mk rfl | (repeat (first | exact small_0 | exact small_mk rfl | refine small_upd rfl ?_ | refine small_sw rfl rfl ?_))), rfl, rfl, (by rfl), ?_, ?_⟩ <;> simp only [zw, swN, ElOk, HlOk, Nat.reduceEqDiff, Nat.reduceBEq, Nat.reduceLT, Nat.reduceLeDiff, reduceIte, reduceCtorEq, H0, AObj.cells.injEq]
  obtain ⟨hi, hall⟩ := hs
  refine srun_sound 300 _ _ _ _ ?_
  rcases Nat.lt_or_ge s l.length with hlt | hge
  · obtain ⟨x, hx⟩ := get_some hlt
    have h4 := inc64 hlt (by omega)
    have h2 := lt_t hlt
    have hf := hide hall
    clear hall
    repeat' (first
      | (simp -implicitDefEqProofs only [*, List.getElem?_map, Option.map_some, zr, Nat.reduceAdd, Nat.reduceSub, Nat.reduceMul, Nat.reduceLT, Nat.reduceLeDiff, Nat.reduceEqDiff, Nat.reduceBEq, reduceIte, reduceCtorEq, Int.reduceLE, Int.reduceLT, Int.reduceToNat, Int.reduceEq, Int.reduceNe])
      | ((first | apply condS_splitN | apply condS_split | apply guardS_splitTN | apply guardS_splitFN | apply guardD_splitTN | apply guardD_splitFN | apply guardS_splitT | apply guardS_splitF | apply guardD_splitT | apply guardD_splitF) <;> intro hc)
      | (refine callP0 rfl ?_)
      | (refine callD0 rfl ?_)
      | fail)
    · have e : x = t := of_decide_eq_true hc
      exact ret_ve (by rw [hasS_iff.2 (e ▸ List.mem_of_getElem? hx)])
    · refine ⟨s + 1, ⟨hlt, fun m y hm hy => ?_⟩, by omega, ?_⟩
      · rcases Nat.lt_succ_iff_lt_or_eq.1 hm with h1 | rfl
        · exact hf.out m y h1 hy
        · rw [hx] at hy; obtain rfl := Option.some.inj hy; exact of_decide_eq_false hc
      · refine ⟨rfl, (by first | exact small_0 | exact small_mk rfl | (repeat (first | exact small_0 | exact small_mk rfl | refine small_upd rfl ?_ | refine small_sw rfl rfl ?_))), rfl, rfl, (by rfl), ?_, ?_⟩ <;> simp only [zw, swN, ElOk, HlOk, Nat.reduceEqDiff, Nat.reduceBEq, Nat.reduceLT, Nat.reduceLeDiff, reduceIte, reduceCtorEq, H0, AObj.cells.injEq]
  · obtain rfl : s = l.length := by omega
    have h2 := lt_f hge
    have h3 : hasS t l = false := by
      cases h : hasS t l
      · rfl
      · obtain ⟨m, hm⟩ := List.mem_iff_getElem?.1 (hasS_iff.1 h)
        exact absurd rfl (hall m t (List.getElem?_eq_some_iff.1 hm).1 hm)
    clear hall
    repeat' (first
      | (simp -implicitDefEqProofs only [*, zr, Nat.reduceAdd, Nat.reduceSub, Nat.reduceMul, Nat.reduceLT, Nat.reduceLeDiff, Nat.reduceEqDiff, Nat.reduceBEq, reduceIte, reduceCtorEq, Int.reduceLE, Int.reduceLT, Int.reduceToNat, Int.reduceEq, Int.reduceNe])
      | ((first | apply condS_splitN | apply condS_split | apply guardS_splitTN | apply guardS_splitFN | apply guardD_splitTN | apply guardD_splitFN | apply guardS_splitT | apply guardS_splitF | apply guardD_splitT | apply guardD_splitF) <;> intro hc)
      | (refine callP0 rfl ?_)
      | (refine callD0 rfl ?_)
      | fail)
    exact ret_v
theorem copied_z (c : Cache) (h : CFacts c) : FRet Tryd.prog 40 [aCache c] [.c (.v (pCache c))] :=
  (copied_f c (by have := h.b3; omega) (by have := h.e3; omega) (fun e he => by have := h.refs e he; omega)).frz (l := [.int .i64 c.1, .int .i64 c.2.1, frBlobs c.2.2.1, frEntries c.2.2.2]) rfl
    ⟨rfl, rfl, rcF_row0 (enc := fBlob) (fun _ => rfl), rcF_row0 (enc := fEntry) (fun _ => rfl), trivial⟩
/-- What is wanted of the first entries; which of them stay; which contents stay, and which go. -/
def stayE (roots : List ByteArray) (l : List Entry) : List Entry := keepL (fun e : Entry => !hasS e.1 roots) l
theorem stayE_s {roots : List ByteArray} {en : List Entry} {s : Nat} {x : Entry} (hx : en[s]? = some x) : stayE roots (en.take (s + 1)) = stayE roots (en.take s) ++ if hasS x.1 roots = true then [x] else [] := by
  unfold stayE
  rw [keep_snoc hx]
  cases hasS x.1 roots <;> rfl
def keptB (W : List ByteArray) (at_ : Int) (l : List Blob) : List Blob := l.filter fun b => heldB b at_ || hasS b.1 W
theorem keptB_s {W : List ByteArray} {at_ : Int} {bl : List Blob} {s : Nat} {x : Blob} (hx : bl[s]? = some x) : keptB W at_ (bl.take (s + 1)) = keptB W at_ (bl.take s) ++ if (heldB x at_ || hasS x.1 W) = true then [x] else [] := by
  unfold keptB
  rw [List.take_add_one, hx, List.filter_append]
  cases h : (heldB x at_ || hasS x.1 W) <;> simp [h]
def leftB (W : List ByteArray) (at_ : Int) (l : List Blob) : List ByteArray := digsB (keepL (fun b : Blob => heldB b at_ || hasS b.1 W) l)
theorem leftB_s {W : List ByteArray} {at_ : Int} {bl : List Blob} {s : Nat} {x : Blob} (hx : bl[s]? = some x) : leftB W at_ (bl.take (s + 1)) = leftB W at_ (bl.take s) ++ if (heldB x at_ || hasS x.1 W) = true then [] else [x.1] := by
  unfold leftB digsB
  rw [keep_snoc hx]
  cases h : (heldB x at_ || hasS x.1 W) <;> simp
theorem kept_eq {c : Cache} {roots : List ByteArray} {at_ : Int} (h : RiseB c.2.2.1) : (swept c roots at_).2.2.1 = keptB (wantOf c roots) at_ c.2.2.1 := by
  have hu : ∀ x ∈ c.2.2.1, ∀ y ∈ c.2.2.1, x.1 = y.1 → x = y := fun x hx y hy he => h.inj hx hy he
  show keepL _ _ = _
  unfold keepL keptB
  refine List.filter_congr fun b hb => ?_
  have := keep_iff (c := c) (roots := roots) (at_ := at_) hu (b := b)
  have hk : b ∈ (swept c roots at_).2.2.1 ↔ (!hasS b.1 (goneOf c roots at_)) = true := by
    show b ∈ List.filter _ _ ↔ _
    rw [List.mem_filter]; exact ⟨fun h => h.2, fun h => ⟨hb, h⟩⟩
  rw [Bool.eq_iff_iff, ← hk, this, Bool.or_eq_true, hasS_iff]
  exact ⟨fun h => h.2, fun h => ⟨hb, h⟩⟩
def sweptRn (c : Cache) (roots : List ByteArray) (at_ : Int) : List RS :=
  if ckAt c at_ ≠ 0 then [.agg (rcOwn emptyC [] []), .c (.own 1 0 []), .c (.v (.int .i64 (ckAt c at_)))]
  else if ckDigsM roots 3000 ≠ 0 then [.agg (rcOwn emptyC [] []), .c (.own 1 0 []), .c (.v (.int .i64 (ckDigsM roots 3000)))]
  else [.agg (rcOwn (swept c roots at_) [] []), .c (.own 1 (goneOf c roots at_).length ((goneOf c roots at_).map .str)), .c (.v (.int .i64 0))]
set_option maxHeartbeats 2000000 in
theorem SweptR_f (c : Cache) (roots : List ByteArray) (at_ : Int) (hb : SBound c) (hrl : (roots.length : Int) ≤ 9223372036854775807) (hrs : ∀ d ∈ roots, (d.size : Int) ≤ 9223372036854775807) : FRet Tryd.prog 17 [aCache c, .f (frStrs roots), .f (.int .i64 at_)] (sweptRn c roots at_) := by
  refine fret_w (FCall.of_ax low_ref7_Swept ?_)
  have hok := fun h : ckCache c = 0 => cfacts h
  have hck := CheckCacheR_f c hb
  have hw := withinR_f at_ 0 1000000000
  have hE1 : ckCache c ≠ 0 → ckAt c at_ = ckCache c := fun h => by unfold ckAt; rw [if_pos h]
  have hE2 : ckCache c = 0 → inRg at_ 0 1000000000 = false → ckAt c at_ = 1 := fun h h2 => by simp [ckAt, h, h2]
  have hE3 : ckCache c = 0 → inRg at_ 0 1000000000 = true → ckAt c at_ = 0 := fun h h2 => by simp [ckAt, h, h2]
  have hri := rising_f roots hrl hrs
  have hkq := fun h : RiseB c.2.2.1 => kept_eq (roots := roots) (at_ := at_) h
  have hcz := fun h => copied_z c h
  have hEn : (swept c roots at_).2.2.2 = stayE roots c.2.2.2 := rfl
  have hGo : goneOf c roots at_ = leftB (wantOf c roots) at_ c.2.2.1 := rfl
  have hS1 : (swept c roots at_).1 = c.1 := rfl
  have hS2 : (swept c roots at_).2.1 = c.2.1 := rfl
  unfold sweptRn
  have hWd : wantOf c roots = roots ++ alsoOf c.2.2.1 roots c.2.2.2 := rfl
  generalize ckAt c at_ = er at hE1 hE2 hE3 ⊢
  generalize goneOf c roots at_ = gone at hGo ⊢
  generalize swept c roots at_ = sw at hkq hEn hS1 hS2 ⊢
  generalize wantOf c roots = W at hkq hGo hWd
  obtain ⟨room, lease, bl, en⟩ := c
  obtain ⟨s1, s2, s3, s4⟩ := sw
  simp only at hok hkq hEn hGo hWd hS1 hS2 ⊢
  subst hS1 hS2
  dsimp only [l_ref7_Swept, aCache] at hck ⊢
  refine srun_sound 300 _ _ _ _ ?_
  by_cases h0 : ckCache (s1, s2, bl, en) = 0
  case neg =>
    have hd : decide (ckCache (s1, s2, bl, en) = 0) = false := by simpa using h0
    obtain rfl := hE1 h0
    rw [if_pos h0]
    clear hok h0 hE1 hE2 hE3 hkq hcz hEn hGo hWd
    generalize ckCache (s1, s2, bl, en) = e at *
    repeat' (first
      | (simp -implicitDefEqProofs only [*, frBlobs, frEntries, frStrs, zr, Nat.reduceAdd, Nat.reduceSub, Nat.reduceMul, Nat.reduceLT, Nat.reduceLeDiff, Nat.reduceEqDiff, Nat.reduceBEq, reduceIte, reduceCtorEq, Int.reduceLE, Int.reduceLT, Int.reduceToNat, Int.reduceEq, Int.reduceNe])
      | ((first | apply condS_splitN | apply condS_split | apply guardS_splitTN | apply guardS_splitFN | apply guardD_splitTN | apply guardD_splitFN | apply guardS_splitT | apply guardS_splitF | apply guardD_splitT | apply guardD_splitF) <;> intro hc)
      | (refine callP0 rfl ?_)
      | (refine callD0 rfl ?_)
      | (refine cP (hck) ?_)
      | (refine cD (hck) ?_)
      | (refine cF (hck) ?_)
      | (refine cO (hck) ?_)
      | fail)
    exact retw_errn
  have hO := hok h0
  rw [h0] at hck
  replace hE2 := hE2 h0
  replace hE3 := hE3 h0
  clear hok h0 hE1
  cases h2 : inRg at_ 0 1000000000
  · rw [h2] at hw
    obtain rfl := hE2 h2
    rw [if_pos (by decide)]
    clear hO h2 hE2 hE3 hkq hcz hEn hGo hWd
    repeat' (first
      | (simp -implicitDefEqProofs only [*, frBlobs, frEntries, frStrs, zr, Nat.reduceAdd, Nat.reduceSub, Nat.reduceMul, Nat.reduceLT, Nat.reduceLeDiff, Nat.reduceEqDiff, Nat.reduceBEq, reduceIte, reduceCtorEq, Int.reduceLE, Int.reduceLT, Int.reduceToNat, Int.reduceEq, Int.reduceNe])
      | ((first | apply condS_splitN | apply condS_split | apply guardS_splitTN | apply guardS_splitFN | apply guardD_splitTN | apply guardD_splitFN | apply guardS_splitT | apply guardS_splitF | apply guardD_splitT | apply guardD_splitF) <;> intro hc)
      | (refine callP0 rfl ?_)
      | (refine callD0 rfl ?_)
      | (refine cP (hck) ?_)
      | (refine cD (hck) ?_)
      | (refine cF (hck) ?_)
      | (refine cO (hck) ?_)
      | (refine cP (hw) ?_)
      | (refine cD (hw) ?_)
      | (refine cF (hw) ?_)
      | (refine cO (hw) ?_)
      | fail)
    exact retw_errn
  rw [h2] at hw
  obtain rfl := hE3 h2
  rw [if_neg (by decide)]
  clear hE2 hE3 h2
  have hM : ckDigsM roots 3000 = if (3000 : Int) < roots.length then 2 else ckDigs roots := rfl
  generalize ckDigsM roots 3000 = em at hM ⊢
  by_cases h3 : (3000 : Int) < roots.length
  · rw [if_pos h3] at hM
    subst hM
    rw [if_pos (by decide)]
    have d0 : decide ((roots.length : Int) > 3000) = true := dcT h3
    have d1 : decide ((3000 : Int) < (roots.length : Int)) = true := dcT h3
    clear hO h3 hkq hcz hEn hGo hWd
    repeat' (first
      | (simp -implicitDefEqProofs only [*, frBlobs, frEntries, frStrs, zr, Nat.reduceAdd, Nat.reduceSub, Nat.reduceMul, Nat.reduceLT, Nat.reduceLeDiff, Nat.reduceEqDiff, Nat.reduceBEq, reduceIte, reduceCtorEq, Int.reduceLE, Int.reduceLT, Int.reduceToNat, Int.reduceEq, Int.reduceNe])
      | ((first | apply condS_splitN | apply condS_split | apply guardS_splitTN | apply guardS_splitFN | apply guardD_splitTN | apply guardD_splitFN | apply guardS_splitT | apply guardS_splitF | apply guardD_splitT | apply guardD_splitF) <;> intro hc)
      | (refine callP0 rfl ?_)
      | (refine callD0 rfl ?_)
      | (refine cP (hck) ?_)
      | (refine cD (hck) ?_)
      | (refine cF (hck) ?_)
      | (refine cO (hck) ?_)
      | (refine cP (hw) ?_)
      | (refine cD (hw) ?_)
      | (refine cF (hw) ?_)
      | (refine cO (hw) ?_)
      | fail)
    exact retw_errn
  rw [if_neg h3] at hM
  have d0 : decide ((roots.length : Int) > 3000) = false := dcF h3
  have d1 : decide ((3000 : Int) < (roots.length : Int)) = false := dcF h3
  by_cases h4 : ckDigs roots = 0
  case neg =>
    have hd : decide (ckDigs roots = 0) = false := by simpa using h4
    subst hM
    rw [if_pos h4]
    clear hO h3 h4 hkq hcz hEn hGo hWd
    generalize ckDigs roots = e at *
    repeat' (first
      | (simp -implicitDefEqProofs only [*, frBlobs, frEntries, frStrs, zr, Nat.reduceAdd, Nat.reduceSub, Nat.reduceMul, Nat.reduceLT, Nat.reduceLeDiff, Nat.reduceEqDiff, Nat.reduceBEq, reduceIte, reduceCtorEq, Int.reduceLE, Int.reduceLT, Int.reduceToNat, Int.reduceEq, Int.reduceNe])
      | ((first | apply condS_splitN | apply condS_split | apply guardS_splitTN | apply guardS_splitFN | apply guardD_splitTN | apply guardD_splitFN | apply guardS_splitT | apply guardS_splitF | apply guardD_splitT | apply guardD_splitF) <;> intro hc)
      | (refine callP0 rfl ?_)
      | (refine callD0 rfl ?_)
      | (refine cP (hck) ?_)
      | (refine cD (hck) ?_)
      | (refine cF (hck) ?_)
      | (refine cO (hck) ?_)
      | (refine cP (hw) ?_)
      | (refine cD (hw) ?_)
      | (refine cF (hw) ?_)
      | (refine cO (hw) ?_)
      | (refine cP (hri) ?_)
      | (refine cD (hri) ?_)
      | (refine cF (hri) ?_)
      | (refine cO (hri) ?_)
      | fail)
    exact retw_errn
  rw [h4] at hM hri
  subst hM
  rw [if_neg (by decide)]
  have hcp := hcz hO
  have hk3 := hkq hO.rise
  subst hk3 hEn hGo
  have hb3 : bl.length ≤ 3000 := hO.b3
  have he3 : en.length ≤ 1000 := hO.e3
  have hRF := hide hO.refs
  have hr3 : roots.length ≤ 3000 := by omega
  have hbb : (bl.length : Int) ≤ 9223372036854775807 := by omega
  simp only at hRF
  clear hO h3 h4 hkq hcz
  unfold pCache at hcp
  dsimp only [aCache] at hcp
  have k1 : (roots.length * 16 ≤ 140737488355328) = True := by rw [eq_iff_iff, iff_true]; omega
  repeat' (first
    | (simp -implicitDefEqProofs only [*, frBlobs, frEntries, frStrs, flat_strs, zr, Nat.reduceAdd, Nat.reduceSub, Nat.reduceMul, Nat.reduceLT, Nat.reduceLeDiff, Nat.reduceEqDiff, Nat.reduceBEq, reduceIte, reduceCtorEq, Int.reduceLE, Int.reduceLT, Int.reduceToNat, Int.reduceEq, Int.reduceNe])
    | ((first | apply condS_splitN | apply condS_split | apply guardS_splitTN | apply guardS_splitFN | apply guardD_splitTN | apply guardD_splitFN | apply guardS_splitT | apply guardS_splitF | apply guardD_splitT | apply guardD_splitF) <;> intro hc)
    | (refine callP0 rfl ?_)
    | (refine callD0 rfl ?_)
    | (refine cP (hck) ?_)
    | (refine cD (hck) ?_)
    | (refine cF (hck) ?_)
    | (refine cO (hck) ?_)
    | (refine cP (hw) ?_)
    | (refine cD (hw) ?_)
    | (refine cF (hw) ?_)
    | (refine cO (hw) ?_)
    | (refine cP (hri) ?_)
    | (refine cD (hri) ?_)
    | (refine cF (hri) ?_)
    | (refine cO (hri) ?_)
    | (refine cP (hcp) ?_)
    | (refine cD (hcp) ?_)
    | (refine cF (hcp) ?_)
    | (refine cO (hcp) ?_)
    | fail)
  have hal : ∀ s, (alsoOf bl roots (en.take s)).length ≤ s * 200 := fun s => by
    induction s with
    | zero => simp [alsoOf]
    | succ s ih =>
      rcases Nat.lt_or_ge s en.length with h | h
      · obtain ⟨x, hx⟩ := get_some h
        rw [also_snoc hx, List.length_append]
        have := hRF.out x (List.mem_of_getElem? hx)
        split <;> simp <;> omega
      · rw [List.take_of_length_le (by omega)] at ih ⊢; omega
  refine ax_loopU (S := Nat) 156 [1, 2, 3, 6, 11] [3, 6] (fun s => [(12, .sl 72 1 3 0 (stayE roots (en.take s)).length), (13, .sl 42 1 1 0 (roots ++ alsoOf bl roots (en.take s)).length), (14, .f (.int .i64 s))]) (fun s => [(72, 1, AObj.cells ((rowF fEntry (stayE roots (en.take s))).map AV.f)), (42, 1, AObj.cells (((roots ++ alsoOf bl roots (en.take s)).map FV.str).map AV.f))]) (fun s => s ≤ en.length) (fun s => en.length - s) (0) [72] ?_ ?_ fun s hs => ?_
  · exact Nat.zero_le _
  · refine ⟨rfl, (by first | exact small_0 | exact small_mk rfl | (repeat (first | exact small_0 | exact small_mk rfl | refine small_upd rfl ?_ | refine small_sw rfl rfl ?_))), rfl, rfl, (by rfl), ?_, ?_⟩ <;> simp only [List.take_zero, show alsoOf bl roots [] = [] from rfl, show stayE roots [] = [] from rfl, row_nil, zw, swN, ElOk, HlOk, Nat.reduceEqDiff, Nat.reduceBEq, Nat.reduceLT, Nat.reduceLeDiff, reduceIte, reduceCtorEq, H0, AObj.cells.injEq]
  refine srun_sound 300 _ _ _ _ ?_
  rcases Nat.lt_or_ge s en.length with hlt | hge
  · obtain ⟨x, hx⟩ := get_some hlt
    have h4 := inc64 hlt (by omega)
    have h2 := lt_t hlt
    have hxr := hRF.out x (List.mem_of_getElem? hx)
    have hs2 := stayE_s (roots := roots) hx
    have hs3 := also_snoc (bl := bl) (roots := roots) hx
    have hhs := hasR_f roots x.1 (by omega)
    have hmi := missingR_f (s1, s2, bl, en) x.2.1 hbb (by omega)
    have hal2 := hal s
    unfold pCache at hmi
    cases hh : hasS x.1 roots
    · simp only [hh, Bool.false_and, Bool.false_eq_true, if_false, List.append_nil] at hs2 hs3
      rw [hh] at hhs
      replace hs2 := hide hs2
      replace hs3 := hide hs3
      clear hal2 hmi
      repeat' (first
        | (simp -implicitDefEqProofs only [*, List.getElem?_map, Option.map_some, fEntry, frStrs, zr, Nat.reduceAdd, Nat.reduceSub, Nat.reduceMul, Nat.reduceLT, Nat.reduceLeDiff, Nat.reduceEqDiff, Nat.reduceBEq, reduceIte, reduceCtorEq, Int.reduceLE, Int.reduceLT, Int.reduceToNat, Int.reduceEq, Int.reduceNe])
        | ((first | apply condS_splitN | apply condS_split | apply guardS_splitTN | apply guardS_splitFN | apply guardD_splitTN | apply guardD_splitFN | apply guardS_splitT | apply guardS_splitF | apply guardD_splitT | apply guardD_splitF) <;> intro hc)
        | (refine callP0 rfl ?_)
        | (refine callD0 rfl ?_)
        | (refine cP (hhs) ?_)
        | (refine cD (hhs) ?_)
        | (refine cF (hhs) ?_)
        | (refine cO (hhs) ?_)
        | fail)
      refine ⟨s + 1, hlt, by omega, ?_⟩
      rw [hs2.out, hs3.out]
      refine ⟨rfl, (by first | exact small_0 | exact small_mk rfl | (repeat (first | exact small_0 | exact small_mk rfl | refine small_upd rfl ?_ | refine small_sw rfl rfl ?_))), rfl, rfl, (by rfl), ?_, ?_⟩ <;> simp only [zw, swN, ElOk, HlOk, Nat.reduceEqDiff, Nat.reduceBEq, Nat.reduceLT, Nat.reduceLeDiff, reduceIte, reduceCtorEq, H0, AObj.cells.injEq]
    · simp only [hh, Bool.true_and, if_true] at hs2 hs3
      rw [hh] at hhs
      have hEl : (stayE roots (en.take s)).length ≤ s := Nat.le_trans (List.length_filter_le _ _) (by rw [List.length_take]; omega)
      generalize stayE roots (en.take s) = E at hs2 hEl ⊢
      have hs4 : roots ++ alsoOf bl roots (en.take (s + 1)) = (roots ++ alsoOf bl roots (en.take s)) ++ if decide ((missingOf bl x.2.1).length = 0) = true then x.2.1 else [] := by rw [hs3, List.append_assoc]
      have hAl : (roots ++ alsoOf bl roots (en.take s)).length ≤ 1000000 := by rw [List.length_append]; omega
      generalize roots ++ alsoOf bl roots (en.take s) = A at hs4 hAl ⊢
      have e1 : (rowF fEntry E).length = E.length * 3 := row_len (sz := 3) (fun _ => rfl)
      have e2 : ((E.length + 1) * 48 ≤ 140737488355328) = True := by rw [eq_iff_iff, iff_true]; omega
      have e3 : ((A.length + x.2.1.length) * 16 ≤ 140737488355328) = True := by rw [eq_iff_iff, iff_true]; omega
      have e4 : rowF fEntry (E ++ [x]) = rowF fEntry E ++ fEntry x := row_snoc
      cases hz : decide ((missingOf bl x.2.1).length = 0)
      · have hz' : decide (((missingOf bl x.2.1).length : Int) = 0) = false := by have := of_decide_eq_false hz; rw [decide_eq_false_iff_not]; omega
        rw [hz] at hs4
        simp only [Bool.false_eq_true, if_false, List.append_nil] at hs4
        replace hs2 := hide hs2
        replace hs4 := hide hs4
        clear hal2 hs3 hEl hAl hz hal
        repeat' (first
          | (simp -implicitDefEqProofs only [*, List.getElem?_map, Option.map_some, fEntry, frStrs, frBlobs, frEntries, zr, Nat.reduceAdd, Nat.reduceSub, Nat.reduceMul, Nat.reduceLT, Nat.reduceLeDiff, Nat.reduceEqDiff, Nat.reduceBEq, reduceIte, reduceCtorEq, Int.reduceLE, Int.reduceLT, Int.reduceToNat, Int.reduceEq, Int.reduceNe])
          | ((first | apply condS_splitN | apply condS_split | apply guardS_splitTN | apply guardS_splitFN | apply guardD_splitTN | apply guardD_splitFN | apply guardS_splitT | apply guardS_splitF | apply guardD_splitT | apply guardD_splitF) <;> intro hc)
          | (refine callP0 rfl ?_)
          | (refine callD0 rfl ?_)
          | (refine cP (hhs) ?_)
          | (refine cD (hhs) ?_)
          | (refine cF (hhs) ?_)
          | (refine cO (hhs) ?_)
          | (refine cP (hmi) ?_)
          | (refine cD (hmi) ?_)
          | (refine cF (hmi) ?_)
          | (refine cO (hmi) ?_)
          | fail)
        refine ⟨s + 1, hlt, by omega, ?_⟩
        rw [hs2.out, hs4.out]
        refine ⟨rfl, (by first | exact small_0 | exact small_mk rfl | (repeat (first | exact small_0 | exact small_mk rfl | refine small_upd rfl ?_ | refine small_sw rfl rfl ?_))), rfl, rfl, (by rfl), ?_, ?_⟩ <;> simp only [List.length_append, e4, fEntry, frStrs, zw, swN, ElOk, HlOk, Nat.reduceEqDiff, Nat.reduceBEq, Nat.reduceLT, Nat.reduceLeDiff, reduceIte, reduceCtorEq, H0, AObj.cells.injEq]
        exact SlotsOk.of_eq (by simp)
      · have hz' : decide (((missingOf bl x.2.1).length : Int) = 0) = true := by have := of_decide_eq_true hz; rw [decide_eq_true_eq]; omega
        rw [hz] at hs4
        simp only [if_true] at hs4
        replace hs2 := hide hs2
        replace hs4 := hide hs4
        clear hal2 hs3 hEl hAl hz hal
        repeat' (first
          | (simp -implicitDefEqProofs only [*, List.getElem?_map, Option.map_some, fEntry, frStrs, frBlobs, frEntries, flat_strs, zr, Nat.reduceAdd, Nat.reduceSub, Nat.reduceMul, Nat.reduceLT, Nat.reduceLeDiff, Nat.reduceEqDiff, Nat.reduceBEq, reduceIte, reduceCtorEq, Int.reduceLE, Int.reduceLT, Int.reduceToNat, Int.reduceEq, Int.reduceNe])
          | ((first | apply condS_splitN | apply condS_split | apply guardS_splitTN | apply guardS_splitFN | apply guardD_splitTN | apply guardD_splitFN | apply guardS_splitT | apply guardS_splitF | apply guardD_splitT | apply guardD_splitF) <;> intro hc)
          | (refine callP0 rfl ?_)
          | (refine callD0 rfl ?_)
          | (refine cP (hhs) ?_)
          | (refine cD (hhs) ?_)
          | (refine cF (hhs) ?_)
          | (refine cO (hhs) ?_)
          | (refine cP (hmi) ?_)
          | (refine cD (hmi) ?_)
          | (refine cF (hmi) ?_)
          | (refine cO (hmi) ?_)
          | fail)
        refine ⟨s + 1, hlt, by omega, ?_⟩
        rw [hs2.out, hs4.out]
        refine ⟨rfl, (by first | exact small_0 | exact small_mk rfl | (repeat (first | exact small_0 | exact small_mk rfl | refine small_upd rfl ?_ | refine small_sw rfl rfl ?_))), rfl, rfl, (by rfl), ?_, ?_⟩ <;> simp only [List.length_append, e4, fEntry, frStrs, zw, swN, ElOk, HlOk, Nat.reduceEqDiff, Nat.reduceBEq, Nat.reduceLT, Nat.reduceLeDiff, reduceIte, reduceCtorEq, H0, AObj.cells.injEq]
        all_goals first | exact SlotsOk.of_eq (by simp) | (refine ⟨?_, ?_⟩ <;> exact SlotsOk.of_eq (by simp))
  obtain rfl : s = en.length := by omega
  have h2 := lt_f hge
  have h3 := List.take_length (l := en)
  have hWl : W.length ≤ 1000000 := by
    have := hal en.length
    rw [List.take_length] at this
    rw [hWd, List.length_append]; omega
  replace hal := hide hal
  have hW2 := hWd.symm
  clear hWd
  repeat' (first
    | (simp -implicitDefEqProofs only [*, zr, Nat.reduceAdd, Nat.reduceSub, Nat.reduceMul, Nat.reduceLT, Nat.reduceLeDiff, Nat.reduceEqDiff, Nat.reduceBEq, reduceIte, reduceCtorEq, Int.reduceLE, Int.reduceLT, Int.reduceToNat, Int.reduceEq, Int.reduceNe])
    | ((first | apply condS_splitN | apply condS_split | apply guardS_splitTN | apply guardS_splitFN | apply guardD_splitTN | apply guardD_splitFN | apply guardS_splitT | apply guardS_splitF | apply guardD_splitT | apply guardD_splitF) <;> intro hc)
    | (refine callP0 rfl ?_)
    | (refine callD0 rfl ?_)
    | fail)
  clear h2 h3 hge hal hW2
  generalize stayE roots en = E at *
  refine ax_loopU (S := Nat) 156 [2, 6, 11, 15] [3, 6, 72] (fun s => [(16, .sl 153 1 1 0 (leftB W at_ (bl.take s)).length), (17, .f (.int .i64 s)), (13, .f (frStrs W))]) (fun s => [(15, 1, AObj.cells [.f (.int .i64 s1), .f (.int .i64 s2), .sl 141 1 5 0 (keptB W at_ (bl.take s)).length, .sl 72 1 3 0 E.length]), (141, 1, AObj.cells ((rowF fBlob (keptB W at_ (bl.take s))).map AV.f)), (153, 1, AObj.cells (((leftB W at_ (bl.take s)).map FV.str).map AV.f))]) (fun s => s ≤ bl.length) (fun s => bl.length - s) (0) [153, 141] ?_ ?_ fun s hs => ?_
  · exact Nat.zero_le _
  · refine ⟨rfl, (by first | exact small_0 | exact small_mk rfl | (repeat (first | exact small_0 | exact small_mk rfl | refine small_upd rfl ?_ | refine small_sw rfl rfl ?_))), rfl, rfl, (by rfl), ?_, ?_⟩ <;> simp only [List.take_zero, show leftB W at_ [] = [] from rfl, show keptB W at_ [] = [] from rfl, row_nil, zw, swN, ElOk, HlOk, Nat.reduceEqDiff, Nat.reduceBEq, Nat.reduceLT, Nat.reduceLeDiff, reduceIte, reduceCtorEq, H0, AObj.cells.injEq]
    exact so_strsN (by rfl) (by rfl) rfl
  refine srun_sound 300 _ _ _ _ ?_
  rcases Nat.lt_or_ge s bl.length with hlt | hge
  · obtain ⟨x, hx⟩ := get_some hlt
    have h4 := inc64 hlt (by omega)
    have h2 := lt_t hlt
    have hs2 := keptB_s (W := W) (at_ := at_) hx
    have hs3 := leftB_s (W := W) (at_ := at_) hx
    have hhl := heldR_f x at_
    have hhs := hasR_f W x.1 (by omega)
    have hKl : (keptB W at_ (bl.take s)).length ≤ s := Nat.le_trans (List.length_filter_le _ _) (by rw [List.length_take]; omega)
    have hLl : (leftB W at_ (bl.take s)).length ≤ s := by unfold leftB digsB; rw [List.length_map]; exact Nat.le_trans (List.length_filter_le _ _) (by rw [List.length_take]; omega)
    generalize keptB W at_ (bl.take s) = K at hs2 hKl ⊢
    generalize leftB W at_ (bl.take s) = G at hs3 hLl ⊢
    have e1 : (rowF fBlob K).length = K.length * 5 := row_len (sz := 5) (fun _ => rfl)
    have e2 : ((K.length + 1) * 48 ≤ 140737488355328) = True := by rw [eq_iff_iff, iff_true]; omega
    have e3 : ((G.length + 1) * 16 ≤ 140737488355328) = True := by rw [eq_iff_iff, iff_true]; omega
    have e4 : rowF fBlob (K ++ [x]) = rowF fBlob K ++ fBlob x := row_snoc
    clear hKl hLl hck hcp hri
    cases hd : heldB x at_
    · rw [hd] at hs2 hs3 hhl
      cases hh : hasS x.1 W
      · rw [hh] at hs2 hs3 hhs
        simp only [Bool.or_false, Bool.false_eq_true, if_false, List.append_nil] at hs2 hs3
        replace hs2 := hide hs2
        replace hs3 := hide hs3
        clear hd hh
        repeat' (first
          | (simp -implicitDefEqProofs only [*, List.getElem?_map, Option.map_some, fBlob, frStrs, addFp_wr, zr, Nat.reduceAdd, Nat.reduceSub, Nat.reduceMul, Nat.reduceLT, Nat.reduceLeDiff, Nat.reduceEqDiff, Nat.reduceBEq, reduceIte, reduceCtorEq, Int.reduceLE, Int.reduceLT, Int.reduceToNat, Int.reduceEq, Int.reduceNe])
          | ((first | apply condS_splitN | apply condS_split | apply guardS_splitTN | apply guardS_splitFN | apply guardD_splitTN | apply guardD_splitFN | apply guardS_splitT | apply guardS_splitF | apply guardD_splitT | apply guardD_splitF) <;> intro hc)
          | (refine callP0 rfl ?_)
          | (refine callD0 rfl ?_)
          | (refine cP (hhl) ?_)
          | (refine cD (hhl) ?_)
          | (refine cF (hhl) ?_)
          | (refine cO (hhl) ?_)
          | (refine cP (hhs) ?_)
          | (refine cD (hhs) ?_)
          | (refine cF (hhs) ?_)
          | (refine cO (hhs) ?_)
          | fail)
        refine ⟨s + 1, hlt, by omega, ?_⟩
        rw [hs2.out, hs3.out]
        refine ⟨rfl, (by first | exact small_0 | exact small_mk rfl | (repeat (first | exact small_0 | exact small_mk rfl | refine small_upd rfl ?_ | refine small_sw rfl rfl ?_))), rfl, rfl, (by rfl), ?_, ?_⟩ <;> simp only [List.length_append, e4, fBlob, frStrs, zw, swN, ElOk, HlOk, Nat.reduceEqDiff, Nat.reduceBEq, Nat.reduceLT, Nat.reduceLeDiff, reduceIte, reduceCtorEq, H0, AObj.cells.injEq]
        all_goals first | exact SlotsOk.of_eq (by simp) | (refine ⟨?_, ?_⟩ <;> exact SlotsOk.of_eq (by simp))
      · rw [hh] at hs2 hs3 hhs
        simp only [Bool.or_true, if_true, List.append_nil] at hs2 hs3
        replace hs2 := hide hs2
        replace hs3 := hide hs3
        clear hd hh
        repeat' (first
          | (simp -implicitDefEqProofs only [*, List.getElem?_map, Option.map_some, fBlob, frStrs, addFp_wr, zr, Nat.reduceAdd, Nat.reduceSub, Nat.reduceMul, Nat.reduceLT, Nat.reduceLeDiff, Nat.reduceEqDiff, Nat.reduceBEq, reduceIte, reduceCtorEq, Int.reduceLE, Int.reduceLT, Int.reduceToNat, Int.reduceEq, Int.reduceNe])
          | ((first | apply condS_splitN | apply condS_split | apply guardS_splitTN | apply guardS_splitFN | apply guardD_splitTN | apply guardD_splitFN | apply guardS_splitT | apply guardS_splitF | apply guardD_splitT | apply guardD_splitF) <;> intro hc)
          | (refine callP0 rfl ?_)
          | (refine callD0 rfl ?_)
          | (refine cP (hhl) ?_)
          | (refine cD (hhl) ?_)
          | (refine cF (hhl) ?_)
          | (refine cO (hhl) ?_)
          | (refine cP (hhs) ?_)
          | (refine cD (hhs) ?_)
          | (refine cF (hhs) ?_)
          | (refine cO (hhs) ?_)
          | fail)
        refine ⟨s + 1, hlt, by omega, ?_⟩
        rw [hs2.out, hs3.out]
        refine ⟨rfl, (by first | exact small_0 | exact small_mk rfl | (repeat (first | exact small_0 | exact small_mk rfl | refine small_upd rfl ?_ | refine small_sw rfl rfl ?_))), rfl, rfl, (by rfl), ?_, ?_⟩ <;> simp only [List.length_append, e4, fBlob, frStrs, zw, swN, ElOk, HlOk, Nat.reduceEqDiff, Nat.reduceBEq, Nat.reduceLT, Nat.reduceLeDiff, reduceIte, reduceCtorEq, H0, AObj.cells.injEq]
        all_goals first | exact SlotsOk.of_eq (by simp) | (refine ⟨?_, ?_⟩ <;> exact SlotsOk.of_eq (by simp))
    · rw [hd] at hs2 hs3 hhl
      simp only [Bool.true_or, if_true, List.append_nil] at hs2 hs3
      replace hs2 := hide hs2
      replace hs3 := hide hs3
      clear hd hhs
      repeat' (first
        | (simp -implicitDefEqProofs only [*, List.getElem?_map, Option.map_some, fBlob, frStrs, addFp_wr, zr, Nat.reduceAdd, Nat.reduceSub, Nat.reduceMul, Nat.reduceLT, Nat.reduceLeDiff, Nat.reduceEqDiff, Nat.reduceBEq, reduceIte, reduceCtorEq, Int.reduceLE, Int.reduceLT, Int.reduceToNat, Int.reduceEq, Int.reduceNe])
        | ((first | apply condS_splitN | apply condS_split | apply guardS_splitTN | apply guardS_splitFN | apply guardD_splitTN | apply guardD_splitFN | apply guardS_splitT | apply guardS_splitF | apply guardD_splitT | apply guardD_splitF) <;> intro hc)
        | (refine callP0 rfl ?_)
        | (refine callD0 rfl ?_)
        | (refine cP (hhl) ?_)
        | (refine cD (hhl) ?_)
        | (refine cF (hhl) ?_)
        | (refine cO (hhl) ?_)
        | fail)
      refine ⟨s + 1, hlt, by omega, ?_⟩
      rw [hs2.out, hs3.out]
      refine ⟨rfl, (by first | exact small_0 | exact small_mk rfl | (repeat (first | exact small_0 | exact small_mk rfl | refine small_upd rfl ?_ | refine small_sw rfl rfl ?_))), rfl, rfl, (by rfl), ?_, ?_⟩ <;> simp only [List.length_append, e4, fBlob, frStrs, zw, swN, ElOk, HlOk, Nat.reduceEqDiff, Nat.reduceBEq, Nat.reduceLT, Nat.reduceLeDiff, reduceIte, reduceCtorEq, H0, AObj.cells.injEq]
      all_goals first | exact SlotsOk.of_eq (by simp) | (refine ⟨?_, ?_⟩ <;> exact SlotsOk.of_eq (by simp))
  · obtain rfl : s = bl.length := by omega
    have h2 := lt_f hge
    have h3 := List.take_length (l := bl)
    repeat' (first
      | (simp -implicitDefEqProofs only [*, frStrs, zr, Nat.reduceAdd, Nat.reduceSub, Nat.reduceMul, Nat.reduceLT, Nat.reduceLeDiff, Nat.reduceEqDiff, Nat.reduceBEq, reduceIte, reduceCtorEq, Int.reduceLE, Int.reduceLT, Int.reduceToNat, Int.reduceEq, Int.reduceNe])
      | ((first | apply condS_splitN | apply condS_split | apply guardS_splitTN | apply guardS_splitFN | apply guardD_splitTN | apply guardD_splitFN | apply guardS_splitT | apply guardS_splitF | apply guardD_splitT | apply guardD_splitF) <;> intro hc)
      | (refine callP0 rfl ?_)
      | (refine callD0 rfl ?_)
      | fail)
    exact ⟨_, [.agg [.f (.int .i64 s1), .f (.int .i64 s2), .sl 141 1 5 0 (keptB W at_ bl).length, .sl 72 1 3 0 E.length], .sl 153 1 1 0 (leftB W at_ bl).length, .f (.int .i64 0)], rfl, .refl _, ⟨⟨rfl, rfl, .inr ⟨141, 1, rfl, (by rw [List.append_nil]; rfl), by rw [List.append_nil, row_len (sz := 5) (fun _ => rfl)]; exact Nat.le_refl _⟩, .inr ⟨72, 1, rfl, (by rw [List.append_nil]; rfl), by rw [List.append_nil, row_len (sz := 3) (fun _ => rfl)]; exact Nat.le_refl _⟩, rfl⟩, .inr ⟨153, 1, rfl, rfl, by simp⟩, rfl, rfl⟩, by simp [idsS, idsC]⟩
end Go.Proofs.YtigpcfneodohkaaDoor
