/-
  awake, walked. No statement of the seat is proved here; no conditions.
-/
import Derived.Test.YtaiajaibcpkceaaDoorGrW
import Derived.Test.YtaiajaibcpkceaaDoorGrP
namespace Go.Proofs.YtaiajaibcpkceaaDoor
open Go.RowKit Go.Shelf
set_option linter.unusedVariables false
set_option linter.unusedSimpArgs false
set_option maxRecDepth 100000

def ndA : Node := (⟨#[47, 47, 58, 97]⟩, ⟨#[107]⟩, [], [], [], 0)
theorem treeErr_A : treeErr [ndA] = 0 := by decide
theorem orderOf_A : orderOf [ndA] = some [0] := by decide
theorem bound_A : GBound [ndA] := ⟨by decide, fun n hn => by
  rw [List.mem_singleton.1 hn]
  exact ⟨by decide, by decide, (fun d hd => by cases hd), by decide, by decide, (fun d hd => by cases hd)⟩⟩
theorem awake_f : FRet Tryd.prog 11 [] [.c (.v (.bool true))] := by
  have hO := Order_f [ndA] bound_A
  rw [treeErr_A, orderOf_A, if_pos rfl] at hO
  change FRet Tryd.prog 15 [.f (frNodes [ndA])] [.c (.v (frStrs [⟨#[47, 47, 58, 97]⟩])), .c (.v (.int .i64 0))] at hO
  refine FCall.of_ax low_law4_awake ?_
  dsimp only [l_law4_awake]
  refine srun_sound 300 _ _ _ _ ?_
  repeat' (first
    | (simp -implicitDefEqProofs only [*, zr, Nat.reduceAdd, Nat.reduceSub, Nat.reduceMul, Nat.reduceLT, Nat.reduceLeDiff, Nat.reduceEqDiff, Nat.reduceBEq, reduceIte, reduceCtorEq, Int.reduceLE, Int.reduceLT, Int.reduceToNat, Int.reduceEq, Int.reduceNe])
    | ((first | apply condS_splitN | apply condS_split | apply guardS_splitTN | apply guardS_splitFN | apply guardD_splitTN | apply guardD_splitFN | apply guardS_splitT | apply guardS_splitF | apply guardD_splitT | apply guardD_splitF) <;> intro hc)
    | (refine callP0 rfl ?_)
    | (refine callD0 rfl ?_)
    | fail)
  refine ax_weakA [] (nw := []) (n := 22) (el := [(5, .sl 5 1 6 0 1)]) (hl := [(5, 1, .cells ((fNode ndA).map .f))]) rfl ?_ ?_
  · refine ⟨rfl, (by first | exact small_0 | exact small_mk rfl | (repeat (first | exact small_0 | exact small_mk rfl | refine small_upd rfl ?_ | refine small_sw rfl rfl ?_))), rfl, rfl, (by rfl), ?_, ?_⟩ <;> simp only [fNode, ndA, frStrs, so_ff', zw, swN, ElOk, HlOk, Nat.reduceEqDiff, Nat.reduceBEq, Nat.reduceLT, Nat.reduceLeDiff, reduceIte, reduceCtorEq, H0, AObj.cells.injEq]
    exact ⟨_, rfl⟩
  refine ax_weakA [] (nw := []) (n := 22) (el := [(5, .f (frNodes [ndA]))]) (hl := []) rfl ?_ ?_
  · refine ⟨rfl, small_mk rfl, rfl, rfl, rfl, ⟨by decide, ?_, trivial⟩, trivial⟩
    exact so_sl rfl rfl rfl (fun x hx => by rw [List.mem_singleton.1 hx]; rfl) (by simp)
  have d1 : decide (((1 : Nat) : Int) = 1) = true := rfl
  repeat' (first
    | (simp -implicitDefEqProofs only [*, frStrs, zr, Nat.reduceAdd, Nat.reduceSub, Nat.reduceMul, Nat.reduceLT, Nat.reduceLeDiff, Nat.reduceEqDiff, Nat.reduceBEq, reduceIte, reduceCtorEq, Int.reduceLE, Int.reduceLT, Int.reduceToNat, Int.reduceEq, Int.reduceNe])
    | ((first | apply condS_splitN | apply condS_split | apply guardS_splitTN | apply guardS_splitFN | apply guardD_splitTN | apply guardD_splitFN | apply guardS_splitT | apply guardS_splitF | apply guardD_splitT | apply guardD_splitF) <;> intro hc)
    | (refine callP0 rfl ?_)
    | (refine callD0 rfl ?_)
    | (refine cP (hO) ?_)
    | (refine cD (hO) ?_)
    | (refine cF (hO) ?_)
    | fail)
  exact ret_ve rfl
def needsV (g : Graph) (a b : ByteArray) : Bool := match g.find? (fun x => decide (x.1 = a)) with
  | some x => decide (0 ≤ ixS x.2.2.1 b)
  | none => false
theorem needs_hit {g : Graph} {a b : ByteArray} {i : Nat} {x : Node} (h : ∀ (m : Nat) y, m < i → g[m]? = some y → decide (y.1 = a) = false) (hx : g[i]? = some x) (he : decide (x.1 = a) = true) : needsV g a b = decide (0 ≤ ixS x.2.2.1 b) := by
  have : g.find? (fun x => decide (x.1 = a)) = some x := by
    rw [List.find?_eq_some_iff_getElem]
    obtain ⟨h1, h2⟩ := List.getElem?_eq_some_iff.1 hx
    refine ⟨he, i, h1, h2, fun m hm => ?_⟩
    rw [h m _ hm (List.getElem?_eq_getElem (by omega))]; rfl
  rw [needsV, this]
theorem needs_none {g : Graph} {a b : ByteArray} (h : ∀ (m : Nat) y, m < g.length → g[m]? = some y → decide (y.1 = a) = false) : needsV g a b = false := by
  have : g.find? (fun x => decide (x.1 = a)) = none := by
    rw [List.find?_eq_none]
    intro x hx
    obtain ⟨m, hm⟩ := List.mem_iff_getElem?.1 hx
    rw [h m x (List.getElem?_eq_some_iff.1 hm).1 hm]; decide
  rw [needsV, this]
theorem needs_f (g : Graph) (hb : GBound g) (a b : ByteArray) : FRet Tryd.prog 13 [.f (frNodes g), .f (.str a), .f (.str b)] [.c (.v (.bool (needsV g a b)))] := by
  obtain ⟨hb1, hb2⟩ := hb
  refine FCall.of_ax low_law4_needs ?_
  dsimp only [l_law4_needs, frNodes]
  refine srun_sound 300 _ _ _ _ ?_
  replace hb2 := hide hb2
  repeat' (first
    | (simp -implicitDefEqProofs only [*, zr, Nat.reduceAdd, Nat.reduceSub, Nat.reduceMul, Nat.reduceLT, Nat.reduceLeDiff, Nat.reduceEqDiff, Nat.reduceBEq, reduceIte, reduceCtorEq, Int.reduceLE, Int.reduceLT, Int.reduceToNat, Int.reduceEq, Int.reduceNe])
    | ((first | apply condS_splitN | apply condS_split | apply guardS_splitTN | apply guardS_splitFN | apply guardD_splitTN | apply guardD_splitFN | apply guardS_splitT | apply guardS_splitF | apply guardD_splitT | apply guardD_splitF) <;> intro hc)
    | (refine callP0 rfl ?_)
    | (refine callD0 rfl ?_)
    | fail)
  refine ax_loopU (S := Nat) 28 [0, 1, 2] [] (fun s => [(7, .f (.int .i64 s))]) (fun s => []) (fun s => s ≤ g.length ∧ ∀ (m : Nat) y, m < s → g[m]? = some y → decide (y.1 = a) = false) (fun s => g.length - s) (0) [] ?_ ?_ fun s hs => ?_
  · exact ⟨Nat.zero_le _, fun m y h => absurd h (Nat.not_lt_zero _)⟩
  · refine ⟨rfl, (by first | exact small_0 | exact small_mk rfl | (repeat (first | exact small_0 | exact small_mk rfl | refine small_upd rfl ?_ | refine small_sw rfl rfl ?_))), rfl, rfl, (by rfl), ?_, ?_⟩ <;> simp only [zw, swN, ElOk, HlOk, Nat.reduceEqDiff, Nat.reduceBEq, Nat.reduceLT, Nat.reduceLeDiff, reduceIte, reduceCtorEq, H0, AObj.cells.injEq]
  obtain ⟨hi, hall⟩ := hs
  refine srun_sound 300 _ _ _ _ ?_
  rcases Nat.lt_or_ge s g.length with hlt | hge
  · obtain ⟨x, hx⟩ := get_some hlt
    have h4 := inc64 hlt hb1
    have h2 := lt_t hlt
    have hC := contains_fS x.2.2.1 b (hb2.out x (List.mem_of_getElem? hx)).dl
    cases hq : decide (x.1 = a)
    · have hst : ∀ (m : Nat) y, m < s + 1 → g[m]? = some y → decide (y.1 = a) = false := fun m y hm hy => by
        rcases Nat.lt_or_ge m s with h3 | h3
        · exact hall m y h3 hy
        · obtain rfl : m = s := by omega
          rw [hx] at hy; obtain rfl := Option.some.inj hy; exact hq
      replace hst := hide hst
      replace hall := hide hall
      replace hC := hide hC
      repeat' (first
        | (simp -implicitDefEqProofs only [*, List.getElem?_map, Option.map_some, fNode, zr, Nat.reduceAdd, Nat.reduceSub, Nat.reduceMul, Nat.reduceLT, Nat.reduceLeDiff, Nat.reduceEqDiff, Nat.reduceBEq, reduceIte, reduceCtorEq, Int.reduceLE, Int.reduceLT, Int.reduceToNat, Int.reduceEq, Int.reduceNe])
        | ((first | apply condS_splitN | apply condS_split | apply guardS_splitTN | apply guardS_splitFN | apply guardD_splitTN | apply guardD_splitFN | apply guardS_splitT | apply guardS_splitF | apply guardD_splitT | apply guardD_splitF) <;> intro hc)
        | (refine callP0 rfl ?_)
        | (refine callD0 rfl ?_)
        | fail)
      refine ⟨s + 1, ⟨hlt, hst.out⟩, by omega, ?_⟩
      refine ⟨rfl, (by first | exact small_0 | exact small_mk rfl | (repeat (first | exact small_0 | exact small_mk rfl | refine small_upd rfl ?_ | refine small_sw rfl rfl ?_))), rfl, rfl, (by rfl), ?_, ?_⟩ <;> simp only [zw, swN, ElOk, HlOk, Nat.reduceEqDiff, Nat.reduceBEq, Nat.reduceLT, Nat.reduceLeDiff, reduceIte, reduceCtorEq, H0, AObj.cells.injEq]
    · rw [needs_hit hall hx hq]
      replace hall := hide hall
      repeat' (first
        | (simp -implicitDefEqProofs only [*, List.getElem?_map, Option.map_some, fNode, zr, Nat.reduceAdd, Nat.reduceSub, Nat.reduceMul, Nat.reduceLT, Nat.reduceLeDiff, Nat.reduceEqDiff, Nat.reduceBEq, reduceIte, reduceCtorEq, Int.reduceLE, Int.reduceLT, Int.reduceToNat, Int.reduceEq, Int.reduceNe])
        | ((first | apply condS_splitN | apply condS_split | apply guardS_splitTN | apply guardS_splitFN | apply guardD_splitTN | apply guardD_splitFN | apply guardS_splitT | apply guardS_splitF | apply guardD_splitT | apply guardD_splitF) <;> intro hc)
        | (refine callP0 rfl ?_)
        | (refine callD0 rfl ?_)
        | (refine cP (hC) ?_)
        | (refine cD (hC) ?_)
        | (refine cF (hC) ?_)
        | fail)
      exact ret_ve rfl
  · obtain rfl : s = g.length := by omega
    have h2 := lt_f hge
    rw [needs_none hall]
    replace hall := hide hall
    repeat' (first
      | (simp -implicitDefEqProofs only [*, zr, Nat.reduceAdd, Nat.reduceSub, Nat.reduceMul, Nat.reduceLT, Nat.reduceLeDiff, Nat.reduceEqDiff, Nat.reduceBEq, reduceIte, reduceCtorEq, Int.reduceLE, Int.reduceLT, Int.reduceToNat, Int.reduceEq, Int.reduceNe])
      | ((first | apply condS_splitN | apply condS_split | apply guardS_splitTN | apply guardS_splitFN | apply guardD_splitTN | apply guardD_splitFN | apply guardS_splitT | apply guardS_splitF | apply guardD_splitT | apply guardD_splitF) <;> intro hc)
      | (refine callP0 rfl ?_)
      | (refine callD0 rfl ?_)
      | fail)
    exact ret_ve rfl
end Go.Proofs.YtaiajaibcpkceaaDoor
