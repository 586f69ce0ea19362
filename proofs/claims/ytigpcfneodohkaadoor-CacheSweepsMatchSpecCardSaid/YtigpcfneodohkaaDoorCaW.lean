/-
  The cache's Whole on the machine. No statement of the seat is proved here; no conditions.
-/
import Derived.Test.YtigpcfneodohkaaDoorCaU
namespace Go.Proofs.YtigpcfneodohkaaDoor
open Go.RowKit Go.Shelf
set_option linter.unusedVariables false
set_option linter.unusedSimpArgs false
set_option maxRecDepth 100000

def ckAt (c : Cache) (at_ : Int) : Int := if ckCache c ≠ 0 then ckCache c else if inRg at_ 0 1000000000 = true then 0 else 1
theorem ckAt_cache {c : Cache} {at_ : Int} (h : ckAt c at_ = 0) : ckCache c = 0 := by
  unfold ckAt at h
  by_cases h1 : ckCache c = 0
  · exact h1
  · rw [if_pos h1] at h; exact absurd h h1
theorem checkAt_g (c : Cache) (at_ : Int) (hb : CBound c) : FRet Tryd.prog 23 [aCache c, .f (.int .i64 at_)] [.c (.v (.int .i64 (ckAt c at_)))] := checkAt_f c at_ hb
/-- What else is wanted: what whole entries of roots have. -/
def alsoOf (bl : List Blob) (roots : List ByteArray) (en : List Entry) : List ByteArray := (en.filter fun e => hasS e.1 roots && decide ((missingOf bl e.2.1).length = 0)).flatMap fun e => e.2.1
theorem also_snoc {bl : List Blob} {roots : List ByteArray} {en : List Entry} {i : Nat} {e : Entry} (h : en[i]? = some e) : alsoOf bl roots (en.take (i + 1)) = alsoOf bl roots (en.take i) ++ if (hasS e.1 roots && decide ((missingOf bl e.2.1).length = 0)) = true then e.2.1 else [] := by
  rw [List.take_add_one, h, alsoOf, List.filter_append, List.flatMap_append, ← alsoOf]
  congr 1
  cases hd : (hasS e.1 roots && decide ((missingOf bl e.2.1).length = 0)) <;> simp only [Option.toList_some, List.filter_cons, hd, Bool.false_eq_true, if_false, if_true, List.filter_nil, List.flatMap_nil, List.flatMap_cons, List.append_nil]
def wantOf (c : Cache) (roots : List ByteArray) : List ByteArray := roots ++ alsoOf c.2.2.1 roots c.2.2.2
def goneB (c : Cache) (roots : List ByteArray) (at_ : Int) : List Blob := keepL (fun b : Blob => heldB b at_ || hasS b.1 (wantOf c roots)) c.2.2.1
def goneOf (c : Cache) (roots : List ByteArray) (at_ : Int) : List ByteArray := (goneB c roots at_).map fun b => b.1
def swept (c : Cache) (roots : List ByteArray) (at_ : Int) : Cache := (c.1, c.2.1, keepL (fun b : Blob => hasS b.1 (goneOf c roots at_)) c.2.2.1, keepL (fun e : Entry => !hasS e.1 roots) c.2.2.2)
def zB (n : Nat) : List FV := (List.replicate n [FV.str ⟨#[]⟩, .int .i64 0, .int .i64 0, .int .i64 0, .int .i64 0]).flatten
def zE (n : Nat) : List FV := (List.replicate n [FV.str ⟨#[]⟩, .nil, .int .i64 0]).flatten
/-- A cache, with rows of its own. -/
def rcOwn (c : Cache) (x y : List FV) : List RC := [.v (.int .i64 c.1), .v (.int .i64 c.2.1), .own 5 c.2.2.1.length (rowF fBlob c.2.2.1 ++ x), .own 3 c.2.2.2.length (rowF fEntry c.2.2.2 ++ y)]
def sweptRs (c : Cache) (roots : List ByteArray) (at_ : Int) : List RS :=
  if ckAt c at_ ≠ 0 then [.agg (rcOwn emptyC [] []), .c (.v (frStrs [])), .c (.v (.int .i64 (ckAt c at_)))]
  else if ckDigsM roots 3000 ≠ 0 then [.agg (rcOwn emptyC [] []), .c (.v (frStrs [])), .c (.v (.int .i64 (ckDigsM roots 3000)))]
  else [.agg (rcOwn (swept c roots at_) (zB (c.2.2.1.length - (swept c roots at_).2.2.1.length)) (zE (c.2.2.2.length - (swept c roots at_).2.2.2.length))), .c (.v (frStrs (goneOf c roots at_))), .c (.v (.int .i64 0))]
theorem rowB_plain (l : List Blob) (x : List FV) (hx : x.all FV.plain = true) : (rowF fBlob l ++ x).all FV.plain = true := by
  rw [List.all_append, hx, Bool.and_true]
  induction l with
  | nil => rfl
  | cons b l ih => rw [row_cons, List.all_append, ih]; rfl
theorem retw_err {e : FV} {H : Heap} : RetsW [.agg (rcOwn emptyC [] []), .c (.v (frStrs [])), .c (.v e)] (.tup [.agg [.f (.int .i64 0), .f (.int .i64 0), .f .nil, .f .nil], .f .nil, .f e]) H :=
  ⟨_, [.agg [.f (.int .i64 0), .f (.int .i64 0), .f .nil, .f .nil], .f (frStrs []), .f e], rfl, .cons (.refl _) (.cons (.nil _) (.refl _)), ⟨⟨rfl, rfl, .inl ⟨rfl, rfl, rfl⟩, .inl ⟨rfl, rfl, rfl⟩, rfl⟩, rfl, rfl, rfl⟩, by simp [idsS, idsC]⟩
theorem so_strsN {H H' : Heap} {nw : List Nat} {id ver n : Nat} {l : List ByteArray} (hd : (H' id).2 = none) (hc : cellsOf ver (H id) = some ((l.map FV.str).map .f)) (hn : n = l.length) : SlotOk H H' nw (.sl id ver 1 0 n) (.f (frStrs l)) := by subst hn; exact so_strs hd hc
theorem retw_own {a b g e : FV} {n m i v j u : Nat} {cs ds : List FV} {H : Heap} (h1 : cellsOf v (H i) = some (cs.map .f)) (h2 : cellsOf u (H j) = some (ds.map .f)) (h3 : n * 5 ≤ cs.length) (h4 : m * 3 ≤ ds.length) (hij : decide (i = j) = false := by rfl) : RetsW [.agg [.v a, .v b, .own 5 n cs, .own 3 m ds], .c (.v g), .c (.v e)] (.tup [.agg [.f a, .f b, .sl i v 5 0 n, .sl j u 3 0 m], .f g, .f e]) H :=
  ⟨_, [.agg [.f a, .f b, .sl i v 5 0 n, .sl j u 3 0 m], .f g, .f e], rfl, .refl _, ⟨⟨rfl, rfl, .inr ⟨_, _, rfl, h1, h3⟩, .inr ⟨_, _, rfl, h2, h4⟩, rfl⟩, rfl, rfl, rfl⟩, by
    have := of_decide_eq_false hij
    simp [idsS, idsC, this]⟩
theorem Swept_f (c : Cache) (roots : List ByteArray) (at_ : Int) (hb : CBound c) (hrl : (roots.length : Int) ≤ 9223372036854775807) : FRet Tryd.prog 16 [aCache c, .f (frStrs roots), .f (.int .i64 at_)] (sweptRs c roots at_) := by
  refine fret_w (FCall.of_ax low_cache_Swept ?_)
  have hok := fun h : ckAt c at_ = 0 => cok_of (ckAt_cache h)
  unfold sweptRs
  obtain ⟨room, lease, bl, en⟩ := c
  simp only at hok ⊢
  dsimp only [l_cache_Swept, aCache]
  refine srun_sound 300 _ _ _ _ ?_
  by_cases h0 : ckAt (room, lease, bl, en) at_ = 0
  case neg =>
    have hd : decide (ckAt (room, lease, bl, en) at_ = 0) = false := by simpa using h0
    rw [if_pos h0]
    clear hok
    repeat' (first
      | (simp -implicitDefEqProofs only [*, frBlobs, frEntries, zr, Nat.reduceAdd, Nat.reduceSub, Nat.reduceMul, Nat.reduceLT, Nat.reduceLeDiff, Nat.reduceEqDiff, Nat.reduceBEq, reduceIte, reduceCtorEq, Int.reduceLE, Int.reduceLT, Int.reduceToNat, Int.reduceEq, Int.reduceNe])
      | ((first | apply condS_splitN | apply condS_split | apply guardS_splitTN | apply guardS_splitFN | apply guardD_splitTN | apply guardD_splitFN | apply guardS_splitT | apply guardS_splitF | apply guardD_splitT | apply guardD_splitF) <;> intro hc)
      | (refine callP0 rfl ?_)
      | (refine callD0 rfl ?_)
      | (refine cP (checkAt_g (room, lease, bl, en) at_ hb) ?_)
      | (refine cD (checkAt_g (room, lease, bl, en) at_ hb) ?_)
      | (refine cF (checkAt_g (room, lease, bl, en) at_ hb) ?_)
      | (refine cO (checkAt_g (room, lease, bl, en) at_ hb) ?_)
      | fail)
    exact retw_err
  have hO := hok h0
  rw [if_neg (fun h => h h0)]
  have hd : decide (ckAt (room, lease, bl, en) at_ = 0) = true := by simpa using h0
  clear hok
  by_cases h1 : ckDigsM roots 3000 = 0
  case neg =>
    have hd1 : decide (ckDigsM roots 3000 = 0) = false := by simpa using h1
    rw [if_pos h1]
    clear hO
    repeat' (first
      | (simp -implicitDefEqProofs only [*, frBlobs, frEntries, zr, Nat.reduceAdd, Nat.reduceSub, Nat.reduceMul, Nat.reduceLT, Nat.reduceLeDiff, Nat.reduceEqDiff, Nat.reduceBEq, reduceIte, reduceCtorEq, Int.reduceLE, Int.reduceLT, Int.reduceToNat, Int.reduceEq, Int.reduceNe])
      | ((first | apply condS_splitN | apply condS_split | apply guardS_splitTN | apply guardS_splitFN | apply guardD_splitTN | apply guardD_splitFN | apply guardS_splitT | apply guardS_splitF | apply guardD_splitT | apply guardD_splitF) <;> intro hc)
      | (refine callP0 rfl ?_)
      | (refine callD0 rfl ?_)
      | (refine cP (checkAt_g (room, lease, bl, en) at_ hb) ?_)
      | (refine cD (checkAt_g (room, lease, bl, en) at_ hb) ?_)
      | (refine cF (checkAt_g (room, lease, bl, en) at_ hb) ?_)
      | (refine cO (checkAt_g (room, lease, bl, en) at_ hb) ?_)
      | (refine cP (checkDigests_f isDigest_f roots 3000 hrl) ?_)
      | (refine cD (checkDigests_f isDigest_f roots 3000 hrl) ?_)
      | (refine cF (checkDigests_f isDigest_f roots 3000 hrl) ?_)
      | (refine cO (checkDigests_f isDigest_f roots 3000 hrl) ?_)
      | fail)
    exact retw_err
  rw [if_neg (fun h => h h1)]
  have hd1 : decide (ckDigsM roots 3000 = 0) = true := by simpa using h1
  have hrn : roots.length ≤ 3000 := by
    unfold ckDigsM at h1
    by_cases h : (3000 : Int) < roots.length
    · rw [if_pos h] at h1; cases h1
    · omega
  have hl3 : bl.length ≤ 1000000 := by have := hO.blen; simp only at this; omega
  have hrb : Rising (fun b : Blob => b.1) bl := hO.rb
  have hel : en.length ≤ 1000 := hO.elen
  have href : ∀ e ∈ en, e.2.1.length ≤ 200 := hO.refs
  have hel6 : en.length ≤ 1000000 := by omega
  have hRB := hide hrb
  have hRF := hide href
  clear hO hrb href h0
  repeat' (first
    | (simp -implicitDefEqProofs only [*, frBlobs, frEntries, frStrs, zr, Nat.reduceAdd, Nat.reduceSub, Nat.reduceMul, Nat.reduceLT, Nat.reduceLeDiff, Nat.reduceEqDiff, Nat.reduceBEq, reduceIte, reduceCtorEq, Int.reduceLE, Int.reduceLT, Int.reduceToNat, Int.reduceEq, Int.reduceNe])
    | ((first | apply condS_splitN | apply condS_split | apply guardS_splitTN | apply guardS_splitFN | apply guardD_splitTN | apply guardD_splitFN | apply guardS_splitT | apply guardS_splitF | apply guardD_splitT | apply guardD_splitF) <;> intro hc)
    | (refine callP0 rfl ?_)
    | (refine callD0 rfl ?_)
    | (refine cP (checkAt_g (room, lease, bl, en) at_ hb) ?_)
    | (refine cD (checkAt_g (room, lease, bl, en) at_ hb) ?_)
    | (refine cF (checkAt_g (room, lease, bl, en) at_ hb) ?_)
    | (refine cO (checkAt_g (room, lease, bl, en) at_ hb) ?_)
    | (refine cP (checkDigests_f isDigest_f roots 3000 hrl) ?_)
    | (refine cD (checkDigests_f isDigest_f roots 3000 hrl) ?_)
    | (refine cF (checkDigests_f isDigest_f roots 3000 hrl) ?_)
    | (refine cO (checkDigests_f isDigest_f roots 3000 hrl) ?_)
    | (refine cP (own_f (room, lease, bl, en) hl3 hel6 (fun e he => Nat.le_trans (hRF.out e he) (by decide))) ?_)
    | (refine cD (own_f (room, lease, bl, en) hl3 hel6 (fun e he => Nat.le_trans (hRF.out e he) (by decide))) ?_)
    | (refine cF (own_f (room, lease, bl, en) hl3 hel6 (fun e he => Nat.le_trans (hRF.out e he) (by decide))) ?_)
    | (refine cO (own_f (room, lease, bl, en) hl3 hel6 (fun e he => Nat.le_trans (hRF.out e he) (by decide))) ?_)
    | fail)
  refine ax_loopU (S := Nat) 93 [3, 5, 6, 11, 12, 37, 38] [3, 5, 6, 11, 12, 34, 1034] (fun s => [(39, .f (.int .i64 s))]) (fun s => [(35, 1, AObj.map (setL (roots.take s))), (36, 1, AObj.map (setL (roots.take s)))]) (fun s => s ≤ roots.length) (fun s => roots.length - s) (0) [] ?_ ?_ fun s hs => ?_
  · exact Nat.zero_le _
  · refine ⟨rfl, (by first | exact small_0 | exact small_mk rfl | (repeat (first | exact small_0 | exact small_mk rfl | refine small_upd rfl ?_ | refine small_sw rfl rfl ?_))), rfl, rfl, (by rfl), ?_, ?_⟩ <;> simp only [List.take_zero, zw, swN, ElOk, HlOk, Nat.reduceEqDiff, Nat.reduceBEq, Nat.reduceLT, Nat.reduceLeDiff, reduceIte, reduceCtorEq, H0, AObj.cells.injEq]
    all_goals rfl
  refine srun_sound 300 _ _ _ _ ?_
  rcases Nat.lt_or_ge s roots.length with hlt | hge
  · obtain ⟨x, hx⟩ := get_some hlt
    have h4 := inc64 hlt (by omega)
    have h2 := lt_t hlt
    have hs2 : setL (roots.take (s + 1)) = mSet x (.bool true) (setL (roots.take s)) := by rw [List.take_add_one, hx, setL_snoc]; rfl
    repeat' (first
      | (simp -implicitDefEqProofs only [*, frStrs, List.getElem?_map, Option.map_some, zr, Nat.reduceAdd, Nat.reduceSub, Nat.reduceMul, Nat.reduceLT, Nat.reduceLeDiff, Nat.reduceEqDiff, Nat.reduceBEq, reduceIte, reduceCtorEq, Int.reduceLE, Int.reduceLT, Int.reduceToNat, Int.reduceEq, Int.reduceNe])
      | ((first | apply condS_splitN | apply condS_split | apply guardS_splitTN | apply guardS_splitFN | apply guardD_splitTN | apply guardD_splitFN | apply guardS_splitT | apply guardS_splitF | apply guardD_splitT | apply guardD_splitF) <;> intro hc)
      | (refine callP0 rfl ?_)
      | (refine callD0 rfl ?_)
      | fail)
    refine ⟨s + 1, hlt, by omega, ?_⟩
    rw [hs2]
    refine ⟨rfl, (by first | exact small_0 | exact small_mk rfl | (repeat (first | exact small_0 | exact small_mk rfl | refine small_upd rfl ?_ | refine small_sw rfl rfl ?_))), rfl, rfl, (by rfl), ?_, ?_⟩ <;> simp only [zw, swN, ElOk, HlOk, Nat.reduceEqDiff, Nat.reduceBEq, Nat.reduceLT, Nat.reduceLeDiff, reduceIte, reduceCtorEq, H0, AObj.cells.injEq]
  obtain rfl : s = roots.length := by omega
  have h2 := lt_f hge
  have h3 := List.take_length (l := roots)
  repeat' (first
    | (simp -implicitDefEqProofs only [*, frStrs, zr, Nat.reduceAdd, Nat.reduceSub, Nat.reduceMul, Nat.reduceLT, Nat.reduceLeDiff, Nat.reduceEqDiff, Nat.reduceBEq, reduceIte, reduceCtorEq, Int.reduceLE, Int.reduceLT, Int.reduceToNat, Int.reduceEq, Int.reduceNe])
    | ((first | apply condS_splitN | apply condS_split | apply guardS_splitTN | apply guardS_splitFN | apply guardD_splitTN | apply guardD_splitFN | apply guardS_splitT | apply guardS_splitF | apply guardD_splitT | apply guardD_splitF) <;> intro hc)
    | (refine callP0 rfl ?_)
    | (refine callD0 rfl ?_)
    | fail)
  clear hge h2 h3
  refine ax_loopU (S := Nat) 93 [3, 5, 6, 11, 12, 49, 50] [3, 5, 6, 11, 12, 36, 34, 1034] (fun s => [(51, .f (.int .i64 s))]) (fun s => [(35, 1, AObj.map (setL (roots ++ alsoOf bl roots (en.take s))))]) (fun s => s ≤ en.length) (fun s => en.length - s) (0) [] ?_ ?_ fun s hs => ?_
  · exact Nat.zero_le _
  · refine ⟨rfl, (by first | exact small_0 | exact small_mk rfl | (repeat (first | exact small_0 | exact small_mk rfl | refine small_upd rfl ?_ | refine small_sw rfl rfl ?_))), rfl, rfl, (by rfl), ?_, ?_⟩ <;> simp only [List.take_zero, show alsoOf bl roots [] = [] from rfl, zw, swN, ElOk, HlOk, Nat.reduceEqDiff, Nat.reduceBEq, Nat.reduceLT, Nat.reduceLeDiff, reduceIte, reduceCtorEq, H0, AObj.cells.injEq]
  refine srun_sound 300 _ _ _ _ ?_
  rcases Nat.lt_or_ge s en.length with hlt | hge
  · obtain ⟨x, hx⟩ := get_some hlt
    have h4 := inc64 hlt (by omega)
    have h2 := lt_t hlt
    have hxr := hRF.out x (List.mem_of_getElem? hx)
    have hs2 := also_snoc (bl := bl) (roots := roots) hx
    have hld := row_get (enc := fEntry) (sz := 3) (fun _ => rfl) hx
    have hin1 := row_in (enc := fEntry) (sz := 3) (l := en) (fun _ => rfl) hlt
    simp only [fEntry, List.map_cons, List.map_nil, List.length_map] at hld hin1
    have hX := hide hx
    clear hx
    cases hh : hasS x.1 roots
    · have h := mGet_f hh
      simp only [hh, Bool.false_and, Bool.false_eq_true, if_false, List.append_nil] at hs2
      have hS2 := hide hs2
      clear hs2
      repeat' (first
        | (simp -implicitDefEqProofs only [*, zr, Nat.reduceAdd, Nat.reduceSub, Nat.reduceMul, Nat.reduceLT, Nat.reduceLeDiff, Nat.reduceEqDiff, Nat.reduceBEq, reduceIte, reduceCtorEq, Int.reduceLE, Int.reduceLT, Int.reduceToNat, Int.reduceEq, Int.reduceNe])
        | ((first | apply condS_splitN | apply condS_split | apply guardS_splitTN | apply guardS_splitFN | apply guardD_splitTN | apply guardD_splitFN | apply guardS_splitT | apply guardS_splitF | apply guardD_splitT | apply guardD_splitF) <;> intro hc)
        | (refine callP0 rfl ?_)
        | (refine callD0 rfl ?_)
        | fail)
      refine ⟨s + 1, hlt, by omega, ?_⟩
      rw [hS2.out]
      refine ⟨rfl, (by first | exact small_0 | exact small_mk rfl | (repeat (first | exact small_0 | exact small_mk rfl | refine small_upd rfl ?_ | refine small_sw rfl rfl ?_))), rfl, rfl, (by rfl), ?_, ?_⟩ <;> simp only [zw, swN, ElOk, HlOk, Nat.reduceEqDiff, Nat.reduceBEq, Nat.reduceLT, Nat.reduceLeDiff, reduceIte, reduceCtorEq, H0, AObj.cells.injEq]
    · have h := mGet_t hh
      simp only [hh, Bool.true_and] at hs2
      have hS2 := hide hs2
      clear hs2
      repeat' (first
        | (simp -implicitDefEqProofs only [*, zr, Nat.reduceAdd, Nat.reduceSub, Nat.reduceMul, Nat.reduceLT, Nat.reduceLeDiff, Nat.reduceEqDiff, Nat.reduceBEq, reduceIte, reduceCtorEq, Int.reduceLE, Int.reduceLT, Int.reduceToNat, Int.reduceEq, Int.reduceNe])
        | ((first | apply condS_splitN | apply condS_split | apply guardS_splitTN | apply guardS_splitFN | apply guardD_splitTN | apply guardD_splitFN | apply guardS_splitT | apply guardS_splitF | apply guardD_splitT | apply guardD_splitF) <;> intro hc)
        | (refine callP0 rfl ?_)
        | (refine callD0 rfl ?_)
        | fail)
      refine callF rfl (missing_f (room, lease, bl, en) x.2.1 hl3 hRB.out (by omega)) rfl ?_ (by simp [RS.all, RC.all, FV.plain]) (by first | exact free_mk rfl | exact free_mk (by simp) | (repeat (first | exact free_mk rfl | exact free_mk (by simp) | refine free_upd rfl ?_))) ?_
      · show SlotsOk _ _ _ [.agg [.f (.int .i64 room), .f (.int .i64 lease), .sl 34 1 5 0 bl.length, .sl 1034 1 3 0 en.length], .f (frStrs x.2.1)] [aCache (room, lease, bl, en), .f (frStrs x.2.1)]
        unfold aCache
        rw [so_cons, so_cons, so_nil, so_aa, so_cons, so_cons, so_cons, so_cons, so_nil]
        exact ⟨⟨so_f, so_f, so_row0 (enc := fBlob) (fun _ => rfl) rfl rfl rfl, so_row0 (enc := fEntry) (fun _ => rfl) rfl rfl rfl, trivial⟩, so_f, trivial⟩
      cases hmz : decide ((missingOf bl x.2.1).length = 0)
      · have hmz' : decide (((missingOf bl x.2.1).length : Int) = 0) = false := by have := of_decide_eq_false hmz; rw [decide_eq_false_iff_not]; omega
        have hS3 := hS2.out
        rw [hmz] at hS3
        simp only [Bool.false_eq_true, if_false, List.append_nil] at hS3
        have hS4 := hide hS3
        clear hS3 hS2 hmz
        repeat' (first
          | (simp -implicitDefEqProofs only [*, zr, Nat.reduceAdd, Nat.reduceSub, Nat.reduceMul, Nat.reduceLT, Nat.reduceLeDiff, Nat.reduceEqDiff, Nat.reduceBEq, reduceIte, reduceCtorEq, Int.reduceLE, Int.reduceLT, Int.reduceToNat, Int.reduceEq, Int.reduceNe])
          | ((first | apply condS_splitN | apply condS_split | apply guardS_splitTN | apply guardS_splitFN | apply guardD_splitTN | apply guardD_splitFN | apply guardS_splitT | apply guardS_splitF | apply guardD_splitT | apply guardD_splitF) <;> intro hc)
          | (refine callP0 rfl ?_)
          | (refine callD0 rfl ?_)
          | fail)
        refine ⟨s + 1, hlt, by omega, ?_⟩
        rw [hS4.out]
        refine ⟨rfl, (by first | exact small_0 | exact small_mk rfl | (repeat (first | exact small_0 | exact small_mk rfl | refine small_upd rfl ?_ | refine small_sw rfl rfl ?_))), rfl, rfl, (by rfl), ?_, ?_⟩ <;> simp only [zw, swN, ElOk, HlOk, Nat.reduceEqDiff, Nat.reduceBEq, Nat.reduceLT, Nat.reduceLeDiff, reduceIte, reduceCtorEq, H0, AObj.cells.injEq]
      · have hmz' : decide (((missingOf bl x.2.1).length : Int) = 0) = true := by have := of_decide_eq_true hmz; rw [decide_eq_true_eq]; omega
        have hS3 := hS2.out
        rw [hmz] at hS3
        simp only [if_true] at hS3
        have hS4 := hide hS3
        clear hS3 hS2 hmz
        repeat' (first
          | (simp -implicitDefEqProofs only [*, frStrs, zr, Nat.reduceAdd, Nat.reduceSub, Nat.reduceMul, Nat.reduceLT, Nat.reduceLeDiff, Nat.reduceEqDiff, Nat.reduceBEq, reduceIte, reduceCtorEq, Int.reduceLE, Int.reduceLT, Int.reduceToNat, Int.reduceEq, Int.reduceNe])
          | ((first | apply condS_splitN | apply condS_split | apply guardS_splitTN | apply guardS_splitFN | apply guardD_splitTN | apply guardD_splitFN | apply guardS_splitT | apply guardS_splitF | apply guardD_splitT | apply guardD_splitF) <;> intro hc)
          | (refine callP0 rfl ?_)
          | (refine callD0 rfl ?_)
          | fail)
        obtain ⟨i, hi⟩ : ∃ i, i = s := ⟨s, rfl⟩
        subst hi
        refine ax_loopU (S := Nat) 93 [3, 5, 6, 11, 12, 49, 50, 51, 68, 69] [3, 5, 6, 11, 12, 36, 34, 1034] (fun s => [(70, .f (.int .i64 s))]) (fun s => [(35, 1, AObj.map (setL (roots ++ (alsoOf bl roots (en.take i) ++ x.2.1.take s))))]) (fun s => s ≤ x.2.1.length) (fun s => x.2.1.length - s) (0) [] ?_ ?_ fun s hs => ?_
        · exact Nat.zero_le _
        · refine ⟨rfl, (by first | exact small_0 | exact small_mk rfl | (repeat (first | exact small_0 | exact small_mk rfl | refine small_upd rfl ?_ | refine small_sw rfl rfl ?_))), rfl, rfl, (by rfl), ?_, ?_⟩ <;> simp only [List.take_zero, List.append_nil, zw, swN, ElOk, HlOk, Nat.reduceEqDiff, Nat.reduceBEq, Nat.reduceLT, Nat.reduceLeDiff, reduceIte, reduceCtorEq, H0, AObj.cells.injEq]
        refine srun_sound 300 _ _ _ _ ?_
        rcases Nat.lt_or_ge s x.2.1.length with hlt2 | hge2
        · obtain ⟨d, hdd⟩ := get_some hlt2
          have h6 := inc64 hlt2 (by omega)
          have h7 := lt_t hlt2
          have hs5 : setL (roots ++ (alsoOf bl roots (en.take i) ++ x.2.1.take (s + 1))) = mSet d (.bool true) (setL (roots ++ (alsoOf bl roots (en.take i) ++ x.2.1.take s))) := by
            rw [List.take_add_one, hdd, setL_snoc, List.append_assoc, List.append_assoc]; rfl
          repeat' (first
            | (simp -implicitDefEqProofs only [*, List.getElem?_map, Option.map_some, zr, Nat.reduceAdd, Nat.reduceSub, Nat.reduceMul, Nat.reduceLT, Nat.reduceLeDiff, Nat.reduceEqDiff, Nat.reduceBEq, reduceIte, reduceCtorEq, Int.reduceLE, Int.reduceLT, Int.reduceToNat, Int.reduceEq, Int.reduceNe])
            | ((first | apply condS_splitN | apply condS_split | apply guardS_splitTN | apply guardS_splitFN | apply guardD_splitTN | apply guardD_splitFN | apply guardS_splitT | apply guardS_splitF | apply guardD_splitT | apply guardD_splitF) <;> intro hc)
            | (refine callP0 rfl ?_)
            | (refine callD0 rfl ?_)
            | fail)
          refine ⟨s + 1, hlt2, by omega, ?_⟩
          rw [hs5]
          refine ⟨rfl, (by first | exact small_0 | exact small_mk rfl | (repeat (first | exact small_0 | exact small_mk rfl | refine small_upd rfl ?_ | refine small_sw rfl rfl ?_))), rfl, rfl, (by rfl), ?_, ?_⟩ <;> simp only [zw, swN, ElOk, HlOk, Nat.reduceEqDiff, Nat.reduceBEq, Nat.reduceLT, Nat.reduceLeDiff, reduceIte, reduceCtorEq, H0, AObj.cells.injEq]
        · obtain rfl : s = x.2.1.length := by omega
          have h7 := lt_f hge2
          have h8 := List.take_length (l := x.2.1)
          repeat' (first
            | (simp -implicitDefEqProofs only [*, zr, Nat.reduceAdd, Nat.reduceSub, Nat.reduceMul, Nat.reduceLT, Nat.reduceLeDiff, Nat.reduceEqDiff, Nat.reduceBEq, reduceIte, reduceCtorEq, Int.reduceLE, Int.reduceLT, Int.reduceToNat, Int.reduceEq, Int.reduceNe])
            | ((first | apply condS_splitN | apply condS_split | apply guardS_splitTN | apply guardS_splitFN | apply guardD_splitTN | apply guardD_splitFN | apply guardS_splitT | apply guardS_splitF | apply guardD_splitT | apply guardD_splitF) <;> intro hc)
            | (refine callP0 rfl ?_)
            | (refine callD0 rfl ?_)
            | fail)
          refine ⟨i + 1, hlt, by omega, ?_⟩
          rw [hS4.out]
          refine ⟨rfl, (by first | exact small_0 | exact small_mk rfl | (repeat (first | exact small_0 | exact small_mk rfl | refine small_upd rfl ?_ | refine small_sw rfl rfl ?_))), rfl, rfl, (by rfl), ?_, ?_⟩ <;> simp only [zw, swN, ElOk, HlOk, Nat.reduceEqDiff, Nat.reduceBEq, Nat.reduceLT, Nat.reduceLeDiff, reduceIte, reduceCtorEq, H0, AObj.cells.injEq]
  obtain rfl : s = en.length := by omega
  have h2 := lt_f hge
  have h3 := List.take_length (l := en)
  repeat' (first
    | (simp -implicitDefEqProofs only [*, zr, Nat.reduceAdd, Nat.reduceSub, Nat.reduceMul, Nat.reduceLT, Nat.reduceLeDiff, Nat.reduceEqDiff, Nat.reduceBEq, reduceIte, reduceCtorEq, Int.reduceLE, Int.reduceLT, Int.reduceToNat, Int.reduceEq, Int.reduceNe])
    | ((first | apply condS_splitN | apply condS_split | apply guardS_splitTN | apply guardS_splitFN | apply guardD_splitTN | apply guardD_splitFN | apply guardS_splitT | apply guardS_splitF | apply guardD_splitT | apply guardD_splitF) <;> intro hc)
    | (refine callP0 rfl ?_)
    | (refine callD0 rfl ?_)
    | fail)
  clear h2 h3 hge
  refine callF rfl (cloneB_f bl hl3) rfl ?_ (by have := rowB_plain bl [] rfl; simpa [RS.all, RC.all] using this) (by first | exact free_mk rfl | exact free_mk (by simp) | (repeat (first | exact free_mk rfl | exact free_mk (by simp) | refine free_upd rfl ?_ | refine free_kill ?_))) ?_
  · show SlotsOk _ _ _ [.sl 34 1 5 0 bl.length] [.f (.fr 5 (bl.map fBlob))]
    rw [so_cons, so_nil]
    exact ⟨so_row0 (enc := fBlob) (fun _ => rfl) rfl rfl rfl, trivial⟩
  repeat' (first
    | (simp -implicitDefEqProofs only [*, zr, Nat.reduceAdd, Nat.reduceSub, Nat.reduceMul, Nat.reduceLT, Nat.reduceLeDiff, Nat.reduceEqDiff, Nat.reduceBEq, reduceIte, reduceCtorEq, Int.reduceLE, Int.reduceLT, Int.reduceToNat, Int.reduceEq, Int.reduceNe])
    | ((first | apply condS_splitN | apply condS_split | apply guardS_splitTN | apply guardS_splitFN | apply guardD_splitTN | apply guardD_splitFN | apply guardS_splitT | apply guardS_splitF | apply guardD_splitT | apply guardD_splitF) <;> intro hc)
    | (refine callP0 rfl ?_)
    | (refine callD0 rfl ?_)
    | fail)
  have hW : roots ++ alsoOf bl roots en = wantOf (room, lease, bl, en) roots := rfl
  rw [hW]
  generalize hw : wantOf (room, lease, bl, en) roots = W
  refine ax_weakA [] (nw := []) (n := 93) (el := [(3, .ptr 3 1 0), (6, .ptr 6 1 0), (12, .ptr 12 1 0), (80, .sl 80 1 5 0 bl.length), (81, .clo (.func 44) [.ptr 5 1 0, .ptr 11 1 0])]) (hl := [(3, 1, .cells [.f (.int .i64 room), .f (.int .i64 lease), .sl 34 1 5 0 bl.length, .sl 1034 1 3 0 en.length]), (5, 1, .cells [.f (.int .i64 at_)]), (6, 1, .cells [.f (.int .i64 0), .f (.int .i64 0), .f .nil, .f .nil]), (11, 1, .cells [.f (.fm (setL W))]), (12, 1, .cells [.f (.fm (setL roots))]), (34, 1, .cells ((rowF fBlob bl).map .f)), (1034, 1, .cells ((rowF fEntry en).map .f)), (80, 1, .cells ((rowF fBlob bl).map .f))]) rfl ?_ ?_
  · refine ⟨rfl, (by first | exact small_0 | exact small_mk rfl | (repeat (first | exact small_0 | exact small_mk rfl | refine small_upd rfl ?_ | refine small_sw rfl rfl ?_))), rfl, rfl, (by rfl), ?_, ?_⟩ <;> simp only [so_mf, mapOfH_some, so_ptf, so_cc, so_ff', cellsOf_some, List.drop_zero, List.take_succ_cons, List.take_zero, Nat.zero_add, Nat.le_refl, zw, swN, ElOk, HlOk, Nat.reduceEqDiff, Nat.reduceBEq, Nat.reduceLT, Nat.reduceLeDiff, reduceIte, reduceCtorEq, H0, AObj.cells.injEq]
  refine ax_weakA [] (nw := []) (n := 93) (el := [(3, .ptr 3 1 0), (6, .ptr 6 1 0), (12, .f (.fp [.fm (setL roots)])), (80, .sl 80 1 5 0 bl.length), (81, .clo (.func 44) [.f (.fp [.int .i64 at_]), .f (.fp [.fm (setL W)])])]) (hl := [(3, 1, .cells [.f (.int .i64 room), .f (.int .i64 lease), .sl 34 1 5 0 bl.length, .sl 1034 1 3 0 en.length]), (6, 1, .cells [.f (.int .i64 0), .f (.int .i64 0), .f .nil, .f .nil]), (34, 1, .cells ((rowF fBlob bl).map .f)), (1034, 1, .cells ((rowF fEntry en).map .f)), (80, 1, .cells ((rowF fBlob bl).map .f))]) rfl ?_ ?_
  · refine ⟨rfl, (by first | exact small_0 | exact small_mk rfl | (repeat (first | exact small_0 | exact small_mk rfl | refine small_upd rfl ?_ | refine small_sw rfl rfl ?_))), rfl, rfl, (by rfl), ?_, ?_⟩ <;> simp only [so_mf, mapOfH_some, so_ptf, so_cc, so_ff', cellsOf_some, List.drop_zero, List.take_succ_cons, List.take_zero, Nat.zero_add, Nat.le_refl, zw, swN, ElOk, HlOk, Nat.reduceEqDiff, Nat.reduceBEq, Nat.reduceLT, Nat.reduceLeDiff, reduceIte, reduceCtorEq, H0, AObj.cells.injEq]
  refine callM rfl (delf_blob bl _ [.f (.fp [.int .i64 at_]), .f (.fp [.fm (setL W)])] (fun b => heldB b at_ || hasS b.1 W) hl3 (fun x _ => sweptC1_f x at_ W) rfl) rfl [.sl 80 1 5 0 bl.length] [.clo (.func 44) [.f (.fp [.int .i64 at_]), .f (.fp [.fm (setL W)])]] rfl ⟨.inr ⟨_, _, rfl, rfl, by rw [row_len (sz := 5) (fun _ => rfl)]; exact Nat.le_refl _⟩, rfl⟩ (by simp [idsS]) (LeL.refl _) rfl (by first | exact free_mk rfl | exact free_mk (by simp) | (repeat (first | exact free_mk rfl | exact free_mk (by simp) | refine free_upd rfl ?_ | refine free_kill ?_))) ?_
  have hgB : keepL (fun b : Blob => heldB b at_ || hasS b.1 W) bl = goneB (room, lease, bl, en) roots at_ := by rw [← hw]; rfl
  rw [hgB]
  have hgl : (goneB (room, lease, bl, en) roots at_).length ≤ bl.length := List.length_filter_le _ _
  have hgo : goneOf (room, lease, bl, en) roots at_ = (goneB (room, lease, bl, en) roots at_).map fun b => b.1 := rfl
  generalize goneB (room, lease, bl, en) roots at_ = gB at hgl hgo ⊢
  repeat' (first
    | (simp -implicitDefEqProofs only [*, zr, Nat.reduceAdd, Nat.reduceSub, Nat.reduceMul, Nat.reduceLT, Nat.reduceLeDiff, Nat.reduceEqDiff, Nat.reduceBEq, reduceIte, reduceCtorEq, Int.reduceLE, Int.reduceLT, Int.reduceToNat, Int.reduceEq, Int.reduceNe])
    | ((first | apply condS_splitN | apply condS_split | apply guardS_splitTN | apply guardS_splitFN | apply guardD_splitTN | apply guardD_splitFN | apply guardS_splitT | apply guardS_splitF | apply guardD_splitT | apply guardD_splitF) <;> intro hc)
    | (refine callP0 rfl ?_)
    | (refine callD0 rfl ?_)
    | fail)
  refine callF rfl (digestsOf_f gB (by omega)) rfl ?_ (by simp [RS.all, RC.all, FV.plain]) (by first | exact free_mk rfl | exact free_mk (by simp) | (repeat (first | exact free_mk rfl | exact free_mk (by simp) | refine free_upd rfl ?_ | refine free_kill ?_))) ?_
  · show SlotsOk _ _ _ [.sl 82 1 5 0 gB.length] [.f (.fr 5 (gB.map fBlob))]
    rw [so_cons, so_nil]
    exact ⟨so_row (enc := fBlob) (fun _ => rfl) rfl rfl rfl, trivial⟩
  repeat' (first
    | (simp -implicitDefEqProofs only [*, zr, Nat.reduceAdd, Nat.reduceSub, Nat.reduceMul, Nat.reduceLT, Nat.reduceLeDiff, Nat.reduceEqDiff, Nat.reduceBEq, reduceIte, reduceCtorEq, Int.reduceLE, Int.reduceLT, Int.reduceToNat, Int.reduceEq, Int.reduceNe])
    | ((first | apply condS_splitN | apply condS_split | apply guardS_splitTN | apply guardS_splitFN | apply guardD_splitTN | apply guardD_splitFN | apply guardS_splitT | apply guardS_splitF | apply guardD_splitT | apply guardD_splitF) <;> intro hc)
    | (refine callP0 rfl ?_)
    | (refine callD0 rfl ?_)
    | fail)
  rw [← hgo]
  have hgn : gB.length = (goneOf (room, lease, bl, en) roots at_).length := by rw [hgo, List.length_map]
  have hsw : swept (room, lease, bl, en) roots at_ = (room, lease, keepL (fun b : Blob => hasS b.1 (goneOf (room, lease, bl, en) roots at_)) bl, keepL (fun e : Entry => !hasS e.1 roots) en) := rfl
  rw [hsw]
  clear hsw hgo
  generalize goneOf (room, lease, bl, en) roots at_ = gone at hgn ⊢
  rw [hgn]
  refine ax_weakA [] (nw := []) (n := 93) (el := [(3, .ptr 3 1 0), (6, .ptr 6 1 0), (12, .f (.fp [.fm (setL roots)])), (19, .f (frStrs gone)), (84, .f (frStrs gone))]) (hl := [(3, 1, .cells [.f (.int .i64 room), .f (.int .i64 lease), .sl 34 1 5 0 bl.length, .sl 1034 1 3 0 en.length]), (6, 1, .cells [.f (.int .i64 0), .f (.int .i64 0), .f .nil, .f .nil]), (34, 1, .cells ((rowF fBlob bl).map .f)), (1034, 1, .cells ((rowF fEntry en).map .f))]) rfl ?_ ?_
  · refine ⟨rfl, (by first | exact small_0 | exact small_mk rfl | (repeat (first | exact small_0 | exact small_mk rfl | refine small_upd rfl ?_ | refine small_sw rfl rfl ?_))), rfl, rfl, (by rfl), ?_, ?_⟩ <;> simp only [so_mf, mapOfH_some, so_ptf, so_cc, so_ff', cellsOf_some, List.drop_zero, List.take_succ_cons, List.take_zero, Nat.zero_add, Nat.le_refl, zw, swN, ElOk, HlOk, Nat.reduceEqDiff, Nat.reduceBEq, Nat.reduceLT, Nat.reduceLeDiff, reduceIte, reduceCtorEq, H0, AObj.cells.injEq]
    all_goals first | exact so_strsN (by rfl) (by rfl) (by rfl) | (refine And.intro ?_ ?_ <;> exact so_strsN (by rfl) (by rfl) (by rfl))
  refine callPm rfl (drop_f (room, lease, bl, en) bl.length en.length (rowF fBlob bl) (rowF fEntry en) rfl rfl gone hl3 (by omega) (by rw [row_len (sz := 3) (fun _ => rfl)]; exact Nat.le_refl _) room lease) rfl 3 1 [.f (.int .i64 room), .f (.int .i64 lease), .sl 34 1 5 0 bl.length, .sl 1034 1 3 0 en.length] [] [.f (frStrs gone)] rfl rfl ⟨rfl, rfl, .inr ⟨_, _, rfl, rfl, by rw [row_len (sz := 5) (fun _ => rfl)]; exact Nat.le_refl _⟩, .inr ⟨_, _, rfl, rfl, by rw [row_len (sz := 3) (fun _ => rfl)]; exact Nat.le_refl _⟩, rfl⟩ rfl (by simp [idsC, idsS]) (by simp [idsC, idsS]) (LeL.refl _) rfl (by first | exact free_mk rfl | exact free_mk (by simp) | (repeat (first | exact free_mk rfl | exact free_mk (by simp) | refine free_upd rfl ?_ | refine free_kill ?_))) ?_
  repeat' (first
    | (simp -implicitDefEqProofs only [*, zr, Nat.reduceAdd, Nat.reduceSub, Nat.reduceMul, Nat.reduceLT, Nat.reduceLeDiff, Nat.reduceEqDiff, Nat.reduceBEq, reduceIte, reduceCtorEq, Int.reduceLE, Int.reduceLT, Int.reduceToNat, Int.reduceEq, Int.reduceNe])
    | ((first | apply condS_splitN | apply condS_split | apply guardS_splitTN | apply guardS_splitFN | apply guardD_splitTN | apply guardD_splitFN | apply guardS_splitT | apply guardS_splitF | apply guardD_splitT | apply guardD_splitF) <;> intro hc)
    | (refine callP0 rfl ?_)
    | (refine callD0 rfl ?_)
    | fail)
  refine callM rfl (delf_entry en _ [.f (.fp [.fm (setL roots)])] (fun e => !hasS e.1 roots) hel6 (fun x _ => sweptC2_f x roots) rfl) rfl [.sl 1085 1 3 0 en.length] [.clo (.func 48) [.f (.fp [.fm (setL roots)])]] rfl ⟨.inr ⟨_, _, rfl, rfl, by rw [row_len (sz := 3) (fun _ => rfl)]; exact Nat.le_refl _⟩, rfl⟩ (by simp [idsS]) (LeL.refl _) rfl (by first | exact free_mk rfl | exact free_mk (by simp) | (repeat (first | exact free_mk rfl | exact free_mk (by simp) | refine free_upd rfl ?_ | refine free_kill ?_))) ?_
  repeat' (first
    | (simp -implicitDefEqProofs only [*, zr, Nat.reduceAdd, Nat.reduceSub, Nat.reduceMul, Nat.reduceLT, Nat.reduceLeDiff, Nat.reduceEqDiff, Nat.reduceBEq, reduceIte, reduceCtorEq, Int.reduceLE, Int.reduceLT, Int.reduceToNat, Int.reduceEq, Int.reduceNe])
    | ((first | apply condS_splitN | apply condS_split | apply guardS_splitTN | apply guardS_splitFN | apply guardD_splitTN | apply guardD_splitFN | apply guardS_splitT | apply guardS_splitF | apply guardD_splitT | apply guardD_splitF) <;> intro hc)
    | (refine callP0 rfl ?_)
    | (refine callD0 rfl ?_)
    | fail)
  exact retw_own rfl rfl (by rw [List.length_append, row_len (sz := 5) (fun _ => rfl)]; exact Nat.le_add_right _ _) (by rw [List.length_append, row_len (sz := 3) (fun _ => rfl)]; exact Nat.le_add_right _ _)
end Go.Proofs.YtigpcfneodohkaaDoor
