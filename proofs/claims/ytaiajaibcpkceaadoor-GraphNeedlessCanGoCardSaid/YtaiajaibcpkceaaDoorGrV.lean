/-
  Graphs on the machine: the loop that is told. No statement of the seat is proved here; no conditions.
-/
import Derived.Test.YtaiajaibcpkceaaDoorGrU
namespace Go.Proofs.YtaiajaibcpkceaaDoor
open Go.RowKit Go.Shelf
set_option linter.unusedVariables false
set_option linter.unusedSimpArgs false
set_option maxRecDepth 100000

section
variable {P : Program} {R : Env → Heap → Prop} {Λ : Lams} {k : List It} {env : Env} {H : Heap} {d : Nat} {f : Operand} {args : List Operand} {g : Option (Nat × Bool)} {los : List LO} {fid : FuncId} {args' : List AV} {rs : List RS}
/-- A call, behind which the run goes on by m steps only. -/
theorem callPk (m : Nat) (hg : gd g env = some true) (hF : FRet P fid args' rs) (hfn : evA env f = .f (.fn (.func fid))) (ha : LeL (args.map (evA env)) args') (hp : args'.all AV.pure = true) (hfree : ∀ j, j < nextSs 0 rs → H (d + 1000 * j) = (0, none))
    (h : srun P R m Λ (.ops los :: k) (putE env (some d) (oneOrTup (putS d 0 rs))) (putHs d 0 rs H)) : Ax P R Λ (.ops (⟨some d, .call f args, g⟩ :: los) :: k) env H :=
  ax_call (f := f) (args := args) rfl hg (Q := fun r H' => r = oneOrTup (putS d 0 rs) ∧ H' = putHs d 0 rs H) (by rw [hfn]; exact (call_p (t := d) hF hp hfree).le ha) fun v H' hq => by obtain ⟨h1, h2⟩ := hq; subst h1 h2; exact srun_sound m _ _ _ _ h
end
def bInt : Option Nat → Int
  | none => -1
  | some k => k
def bStep (F : List Int) (b : Option Nat) (k : Nat) : Option Nat := match b with
  | none => if 0 ≤ F.getD k 0 then some k else none
  | some c => if 0 ≤ F.getD k 0 ∧ F.getD k 0 < F.getD c 0 then some k else some c
def bestV (F : List Int) (row : List Nat) : Option Nat := row.foldl (bStep F) none
def loopAt (D U : List (List Nat)) (n i : Nat) : Option (List Nat) := (bestV (stepsV U n [i]) (D.getD i [])).map fun c => (i :: wayV D (stepsV U n [i]) c).dropLast
def loopV (D U : List (List Nat)) (n : Nat) : Option (List Nat) := (List.range n).findSome? (loopAt D U n)
theorem loopV_hit {D U : List (List Nat)} {n i : Nat} {l : List Nat} (hi : i < n) (h : ∀ m, m < i → loopAt D U n m = none) (hl : loopAt D U n i = some l) : loopV D U n = some l := by
  unfold loopV
  rw [List.findSome?_eq_some_iff]
  refine ⟨List.range i, i, List.range' (i + 1) (n - (i + 1)), ?_, hl, fun x hx => h x (List.mem_range.1 hx)⟩
  rw [List.range_eq_range', List.range_eq_range']
  rw [show n = i + (1 + (n - (i + 1))) by omega, ← List.range'_append_1, ← List.range'_append_1]
  simp
  omega
theorem loopV_none {D U : List (List Nat)} {n : Nat} (h : ∀ m, m < n → loopAt D U n m = none) : loopV D U n = none := by
  unfold loopV
  rw [List.findSome?_eq_none_iff]
  exact fun x hx => h x (List.mem_range.1 hx)
/-- The best one so far can be reached. -/
theorem best_ok {F : List Int} {n : Nat} : ∀ {l : List Nat} {b : Option Nat}, (∀ k ∈ l, k < n) → (∀ c, b = some c → c < n ∧ 0 ≤ F.getD c 0) → ∀ c, l.foldl (bStep F) b = some c → c < n ∧ 0 ≤ F.getD c 0
  | [], b, _, hb, c, h => hb c h
  | k :: l, b, hl, hb, c, h => by
    rw [List.foldl_cons] at h
    refine best_ok (l := l) (fun j hj => hl j (List.mem_cons_of_mem _ hj)) (fun c' hc' => ?_) c h
    have hk := hl k (List.mem_cons_self ..)
    unfold bStep at hc'
    split at hc'
    · split at hc'
      · rename_i h1; obtain rfl := Option.some.inj hc'; exact ⟨hk, h1⟩
      · cases hc'
    · rename_i c0
      split at hc'
      · rename_i h1; obtain rfl := Option.some.inj hc'; exact ⟨hk, h1.1⟩
      · obtain rfl := Option.some.inj hc'; exact hb _ rfl
theorem loop_f (g : Graph) (D U : List (List Nat)) (hN : NetOk g.length D U) (hm : Mutual g.length D U) : FRet Tryd.prog 31 [.f (fNet g D U)] [.c (.v (ordR (loopV D U g.length)))] := by
  refine FCall.of_ax low_graph_net_loop ?_
  dsimp only [l_graph_net_loop, fNet]
  refine srun_sound 300 _ _ _ _ ?_
  have hnl := hN.nl
  have hdl := hN.dl
  have hul := hN.ul
  replace hN := hide hN
  replace hm := hide hm
  repeat' (first
    | (simp -implicitDefEqProofs only [*, frNodes, zr, Nat.reduceAdd, Nat.reduceSub, Nat.reduceMul, Nat.reduceLT, Nat.reduceLeDiff, Nat.reduceEqDiff, Nat.reduceBEq, reduceIte, reduceCtorEq, Int.reduceLE, Int.reduceLT, Int.reduceToNat, Int.reduceEq, Int.reduceNe])
    | ((first | apply condS_splitN | apply condS_split | apply guardS_splitTN | apply guardS_splitFN | apply guardD_splitTN | apply guardD_splitFN | apply guardS_splitT | apply guardS_splitF | apply guardD_splitT | apply guardD_splitF) <;> intro hc)
    | (refine callP0 rfl ?_)
    | (refine callD0 rfl ?_)
    | fail)
  refine ax_loopU (S := Nat) 73 [0, 13] [] (fun s => [(14, .f (.int .i64 s))]) (fun s => []) (fun s => s ≤ g.length ∧ ∀ m, m < s → loopAt D U g.length m = none) (fun s => g.length - s) (0) [] ?_ ?_ fun s hs => ?_
  · exact ⟨Nat.zero_le _, fun m h => absurd h (Nat.not_lt_zero _)⟩
  · refine ⟨rfl, (by first | exact small_0 | exact small_mk rfl | (repeat (first | exact small_0 | exact small_mk rfl | refine small_upd rfl ?_ | refine small_sw rfl rfl ?_))), rfl, rfl, (by rfl), ?_, ?_⟩ <;> simp only [zw, swN, ElOk, HlOk, Nat.reduceEqDiff, Nat.reduceBEq, Nat.reduceLT, Nat.reduceLeDiff, reduceIte, reduceCtorEq, H0, AObj.cells.injEq]
  obtain ⟨hi, hall⟩ := hs
  refine srun_sound 300 _ _ _ _ ?_
  rcases Nat.lt_or_ge s g.length with hlt | hge
  · obtain ⟨i, rfl⟩ : ∃ i, i = s := ⟨_, rfl⟩
    have g4 := inc64 hlt (by omega)
    have g2 := lt_t hlt
    have hSt := steps_f U [i] g.length hN.out.ul hN.out.nl (fun r hr => hN.out.ur r hr) (fun k hk => by rw [List.mem_singleton.1 hk]; exact hlt) (by simp)
    have hF : ∃ F, F = stepsV U g.length [i] := ⟨_, rfl⟩
    obtain ⟨row, hrow⟩ := get_some (l := D) (i := i) (by omega)
    obtain ⟨hrl, hrn⟩ := hN.out.dr row (List.mem_of_getElem? hrow)
    replace hall := hide hall
    repeat' (first
      | (simp -implicitDefEqProofs only [*, List.getElem?_map, Option.map_some, zr, Nat.reduceAdd, Nat.reduceSub, Nat.reduceMul, Nat.reduceLT, Nat.reduceLeDiff, Nat.reduceEqDiff, Nat.reduceBEq, reduceIte, reduceCtorEq, Int.reduceLE, Int.reduceLT, Int.reduceToNat, Int.reduceEq, Int.reduceNe])
      | ((first | apply condS_splitN | apply condS_split | apply guardS_splitTN | apply guardS_splitFN | apply guardD_splitTN | apply guardD_splitFN | apply guardS_splitT | apply guardS_splitF | apply guardD_splitT | apply guardD_splitF) <;> intro hc)
      | (refine callP0 rfl ?_)
      | (refine callD0 rfl ?_)
      | fail)
    refine ax_weakA [] (nw := []) (n := 73) (el := [(0, .f (.fp [.fr 6 (g.map fNode), frRows D, frRows U])), (3, .f (.int .i64 i)), (13, .f (.int .i64 g.length)), (14, .f (.int .i64 i)), (20, .f (frRows U)), (22, .f (frN [i]))]) (hl := []) rfl ?_ ?_
    · refine ⟨rfl, small_upd rfl (small_mk rfl), rfl, rfl, rfl, ⟨by decide, .inl rfl, by decide, .inl rfl, by decide, .inl rfl, by decide, .inl rfl, by decide, .inl rfl, by decide, ?_, trivial⟩, trivial⟩
      have hso : SlotOk (upd (mkH []) 22 (1, some (.cells (([i].map fN).map .f)))) (mkH []) [] (.sl 22 1 1 0 1) (.f (frN [i])) := by
        rw [frN_eq]; exact so_cells1 (l := [i].map fN) rfl rfl rfl
      exact hso
    have hsp : StepsSpec U [i] g.length (stepsV U g.length [i]) := steps_spec (fun j k hk => by
      rw [List.getD_eq_getElem?_getD] at hk
      cases e : U[j]? with
      | none => rw [e] at hk; cases hk
      | some r => rw [e] at hk; exact (hN.out.ur r (List.mem_of_getElem? e)).2 k hk) (fun k hk => by rw [List.mem_singleton.1 hk]; exact hlt)
    have hW := fun c hc h0 => way_f g D U c i hN.out hm.out hc hlt h0
    have hAt : loopAt D U g.length i = (bestV (stepsV U g.length [i]) row).map fun c => (i :: wayV D (stepsV U g.length [i]) c).dropLast := by unfold loopAt; rw [getD_some hrow]
    clear hF
    generalize stepsV U g.length [i] = F at *
    have hFl := hsp.len
    have hFlo := hsp.lo
    have hbest := fun j => best_ok (F := F) (n := g.length) (l := row.take j) (b := none) (fun k hk => hrn k (List.mem_of_mem_take hk)) (fun c hc => by cases hc)
    replace hsp := hide hsp
    replace hFlo := hide hFlo
    replace hW := hide hW
    replace hAt := hide hAt
    replace hbest := hide hbest
    repeat' (first
      | (simp -implicitDefEqProofs only [*, List.getElem?_map, Option.map_some, frRows, frN, zr, Nat.reduceAdd, Nat.reduceSub, Nat.reduceMul, Nat.reduceLT, Nat.reduceLeDiff, Nat.reduceEqDiff, Nat.reduceBEq, reduceIte, reduceCtorEq, Int.reduceLE, Int.reduceLT, Int.reduceToNat, Int.reduceEq, Int.reduceNe])
      | ((first | apply condS_splitN | apply condS_split | apply guardS_splitTN | apply guardS_splitFN | apply guardD_splitTN | apply guardD_splitFN | apply guardS_splitT | apply guardS_splitF | apply guardD_splitT | apply guardD_splitF) <;> intro hc)
      | (refine callP0 rfl ?_)
      | (refine callD0 rfl ?_)
      | (refine cP (hSt) ?_)
      | (refine cD (hSt) ?_)
      | (refine cF (hSt) ?_)
      | fail)
    refine ax_loopU (S := Nat) 73 [0, 3, 4, 13, 14, 30, 31] [] (fun s => [(5, .f (.int .i64 (bInt ((row.take s).foldl (bStep F) none)))), (32, .f (.int .i64 s))]) (fun s => []) (fun s => s ≤ row.length) (fun s => row.length - s) (0) [] ?_ ?_ fun s hs => ?_
    · exact Nat.zero_le _
    · refine ⟨rfl, (by first | exact small_0 | exact small_mk rfl | (repeat (first | exact small_0 | exact small_mk rfl | refine small_upd rfl ?_ | refine small_sw rfl rfl ?_))), rfl, rfl, (by rfl), ?_, ?_⟩ <;> simp only [List.take_zero, List.foldl_nil, bInt, zw, swN, ElOk, HlOk, Nat.reduceEqDiff, Nat.reduceBEq, Nat.reduceLT, Nat.reduceLeDiff, reduceIte, reduceCtorEq, H0, AObj.cells.injEq]
    refine srun_sound 300 _ _ _ _ ?_
    rcases Nat.lt_or_ge s row.length with hltj | hgej
    · obtain ⟨k, hk⟩ := get_some hltj
      have hkn := hrn k (List.mem_of_getElem? hk)
      have hb := hbest.out s
      have hnx : (row.take (s + 1)).foldl (bStep F) none = bStep F ((row.take s).foldl (bStep F) none) k := by
        rw [List.take_add_one, hk, List.foldl_append]; rfl
      generalize (row.take s).foldl (bStep F) none = b0 at *
      obtain ⟨z, hz⟩ := get_some (l := F) (i := k) (by omega)
      have f4 := inc64 hltj (by omega)
      have f2 := lt_t hltj
      have hfk : fN k = FV.int .i64 k := rfl
      have hfz : fI z = FV.int .i64 z := rfl
      have hk4 : decide (k < g.length) = true := dec_t hkn
      cases b0 with
      | none =>
        have eb : bStep F none k = if 0 ≤ F.getD k 0 then some k else none := rfl
        rw [eb, getD_some hz] at hnx
        clear eb
        have dm : decide ((-1 : Int) < 0) = true := rfl
        replace hb := hide hb
        dsimp only [bInt]
        cases hq : decide (0 ≤ z)
        · rw [if_neg (of_decide_eq_false hq)] at hnx
          repeat' (first
            | (simp -implicitDefEqProofs only [*, List.getElem?_map, Option.map_some, frI, zr, Nat.reduceAdd, Nat.reduceSub, Nat.reduceMul, Nat.reduceLT, Nat.reduceLeDiff, Nat.reduceEqDiff, Nat.reduceBEq, reduceIte, reduceCtorEq, Int.reduceLE, Int.reduceLT, Int.reduceToNat, Int.reduceEq, Int.reduceNe])
            | ((first | apply condS_splitN | apply condS_split | apply guardS_splitTN | apply guardS_splitFN | apply guardD_splitTN | apply guardD_splitFN | apply guardS_splitT | apply guardS_splitF | apply guardD_splitT | apply guardD_splitF) <;> intro hc)
            | (refine callP0 rfl ?_)
            | (refine callD0 rfl ?_)
            | fail)
          refine ⟨s + 1, hltj, by omega, ?_⟩
          rw [hnx]
          refine ⟨rfl, (by first | exact small_0 | exact small_mk rfl | (repeat (first | exact small_0 | exact small_mk rfl | refine small_upd rfl ?_ | refine small_sw rfl rfl ?_))), rfl, rfl, (by rfl), ?_, ?_⟩ <;> simp only [bInt, zw, swN, ElOk, HlOk, Nat.reduceEqDiff, Nat.reduceBEq, Nat.reduceLT, Nat.reduceLeDiff, reduceIte, reduceCtorEq, H0, AObj.cells.injEq]
        · rw [if_pos (of_decide_eq_true hq)] at hnx
          repeat' (first
            | (simp -implicitDefEqProofs only [*, List.getElem?_map, Option.map_some, frI, zr, Nat.reduceAdd, Nat.reduceSub, Nat.reduceMul, Nat.reduceLT, Nat.reduceLeDiff, Nat.reduceEqDiff, Nat.reduceBEq, reduceIte, reduceCtorEq, Int.reduceLE, Int.reduceLT, Int.reduceToNat, Int.reduceEq, Int.reduceNe])
            | ((first | apply condS_splitN | apply condS_split | apply guardS_splitTN | apply guardS_splitFN | apply guardD_splitTN | apply guardD_splitFN | apply guardS_splitT | apply guardS_splitF | apply guardD_splitT | apply guardD_splitF) <;> intro hc)
            | (refine callP0 rfl ?_)
            | (refine callD0 rfl ?_)
            | fail)
          refine ⟨s + 1, hltj, by omega, ?_⟩
          rw [hnx]
          refine ⟨rfl, (by first | exact small_0 | exact small_mk rfl | (repeat (first | exact small_0 | exact small_mk rfl | refine small_upd rfl ?_ | refine small_sw rfl rfl ?_))), rfl, rfl, (by rfl), ?_, ?_⟩ <;> simp only [bInt, zw, swN, ElOk, HlOk, Nat.reduceEqDiff, Nat.reduceBEq, Nat.reduceLT, Nat.reduceLeDiff, reduceIte, reduceCtorEq, H0, AObj.cells.injEq]
      | some c =>
        obtain ⟨hc1, hc2⟩ := hb c rfl
        obtain ⟨zc, hzc⟩ := get_some (l := F) (i := c) (by omega)
        have eb : bStep F (some c) k = if 0 ≤ F.getD k 0 ∧ F.getD k 0 < F.getD c 0 then some k else some c := rfl
        rw [eb, getD_some hz, getD_some hzc] at hnx
        clear eb
        have hfc : fI zc = FV.int .i64 zc := rfl
        have hc4 : decide (c < g.length) = true := dec_t hc1
        have dm : decide ((c : Int) < 0) = false := dec_f (by omega)
        replace hb := hide hb
        dsimp only [bInt]
        cases hq : decide (0 ≤ z)
        · rw [if_neg (fun h => of_decide_eq_false hq h.1)] at hnx
          repeat' (first
            | (simp -implicitDefEqProofs only [*, List.getElem?_map, Option.map_some, frI, zr, Nat.reduceAdd, Nat.reduceSub, Nat.reduceMul, Nat.reduceLT, Nat.reduceLeDiff, Nat.reduceEqDiff, Nat.reduceBEq, reduceIte, reduceCtorEq, Int.reduceLE, Int.reduceLT, Int.reduceToNat, Int.reduceEq, Int.reduceNe])
            | ((first | apply condS_splitN | apply condS_split | apply guardS_splitTN | apply guardS_splitFN | apply guardD_splitTN | apply guardD_splitFN | apply guardS_splitT | apply guardS_splitF | apply guardD_splitT | apply guardD_splitF) <;> intro hc)
            | (refine callP0 rfl ?_)
            | (refine callD0 rfl ?_)
            | fail)
          refine ⟨s + 1, hltj, by omega, ?_⟩
          rw [hnx]
          refine ⟨rfl, (by first | exact small_0 | exact small_mk rfl | (repeat (first | exact small_0 | exact small_mk rfl | refine small_upd rfl ?_ | refine small_sw rfl rfl ?_))), rfl, rfl, (by rfl), ?_, ?_⟩ <;> simp only [bInt, zw, swN, ElOk, HlOk, Nat.reduceEqDiff, Nat.reduceBEq, Nat.reduceLT, Nat.reduceLeDiff, reduceIte, reduceCtorEq, H0, AObj.cells.injEq]
        · cases hq2 : decide (z < zc)
          · rw [if_neg (fun h => of_decide_eq_false hq2 h.2)] at hnx
            repeat' (first
              | (simp -implicitDefEqProofs only [*, List.getElem?_map, Option.map_some, frI, zr, Nat.reduceAdd, Nat.reduceSub, Nat.reduceMul, Nat.reduceLT, Nat.reduceLeDiff, Nat.reduceEqDiff, Nat.reduceBEq, reduceIte, reduceCtorEq, Int.reduceLE, Int.reduceLT, Int.reduceToNat, Int.reduceEq, Int.reduceNe])
              | ((first | apply condS_splitN | apply condS_split | apply guardS_splitTN | apply guardS_splitFN | apply guardD_splitTN | apply guardD_splitFN | apply guardS_splitT | apply guardS_splitF | apply guardD_splitT | apply guardD_splitF) <;> intro hc)
              | (refine callP0 rfl ?_)
              | (refine callD0 rfl ?_)
              | fail)
            refine ⟨s + 1, hltj, by omega, ?_⟩
            rw [hnx]
            refine ⟨rfl, (by first | exact small_0 | exact small_mk rfl | (repeat (first | exact small_0 | exact small_mk rfl | refine small_upd rfl ?_ | refine small_sw rfl rfl ?_))), rfl, rfl, (by rfl), ?_, ?_⟩ <;> simp only [bInt, zw, swN, ElOk, HlOk, Nat.reduceEqDiff, Nat.reduceBEq, Nat.reduceLT, Nat.reduceLeDiff, reduceIte, reduceCtorEq, H0, AObj.cells.injEq]
          · rw [if_pos ⟨of_decide_eq_true hq, of_decide_eq_true hq2⟩] at hnx
            repeat' (first
              | (simp -implicitDefEqProofs only [*, List.getElem?_map, Option.map_some, frI, zr, Nat.reduceAdd, Nat.reduceSub, Nat.reduceMul, Nat.reduceLT, Nat.reduceLeDiff, Nat.reduceEqDiff, Nat.reduceBEq, reduceIte, reduceCtorEq, Int.reduceLE, Int.reduceLT, Int.reduceToNat, Int.reduceEq, Int.reduceNe])
              | ((first | apply condS_splitN | apply condS_split | apply guardS_splitTN | apply guardS_splitFN | apply guardD_splitTN | apply guardD_splitFN | apply guardS_splitT | apply guardS_splitF | apply guardD_splitT | apply guardD_splitF) <;> intro hc)
              | (refine callP0 rfl ?_)
              | (refine callD0 rfl ?_)
              | fail)
            refine ⟨s + 1, hltj, by omega, ?_⟩
            rw [hnx]
            refine ⟨rfl, (by first | exact small_0 | exact small_mk rfl | (repeat (first | exact small_0 | exact small_mk rfl | refine small_upd rfl ?_ | refine small_sw rfl rfl ?_))), rfl, rfl, (by rfl), ?_, ?_⟩ <;> simp only [bInt, zw, swN, ElOk, HlOk, Nat.reduceEqDiff, Nat.reduceBEq, Nat.reduceLT, Nat.reduceLeDiff, reduceIte, reduceCtorEq, H0, AObj.cells.injEq]
    · obtain rfl : s = row.length := by omega
      have f2 := lt_f hgej
      have hb := hbest.out row.length
      rw [List.take_length] at hb ⊢
      have hAt' := hAt.out
      unfold bestV at hAt'
      generalize row.foldl (bStep F) none = b0 at *
      cases b0 with
      | none =>
        replace hb := hide hb
        dsimp only [bInt]
        have dm : decide ((0 : Int) ≤ -1) = false := rfl
        replace hAt' := hide hAt'
        repeat' (first
          | (simp -implicitDefEqProofs only [*, zr, Nat.reduceAdd, Nat.reduceSub, Nat.reduceMul, Nat.reduceLT, Nat.reduceLeDiff, Nat.reduceEqDiff, Nat.reduceBEq, reduceIte, reduceCtorEq, Int.reduceLE, Int.reduceLT, Int.reduceToNat, Int.reduceEq, Int.reduceNe])
          | ((first | apply condS_splitN | apply condS_split | apply guardS_splitTN | apply guardS_splitFN | apply guardD_splitTN | apply guardD_splitFN | apply guardS_splitT | apply guardS_splitF | apply guardD_splitT | apply guardD_splitF) <;> intro hc)
          | (refine callP0 rfl ?_)
          | (refine callD0 rfl ?_)
          | fail)
        refine ⟨i + 1, ⟨hlt, fun m hm' => ?_⟩, by omega, ?_⟩
        · rcases Nat.lt_or_ge m i with h3 | h3
          · exact hall.out m h3
          · obtain rfl : m = i := by omega
            exact hAt'.out
        · refine ⟨rfl, (by first | exact small_0 | exact small_mk rfl | (repeat (first | exact small_0 | exact small_mk rfl | refine small_upd rfl ?_ | refine small_sw rfl rfl ?_))), rfl, rfl, (by rfl), ?_, ?_⟩ <;> simp only [zw, swN, ElOk, HlOk, Nat.reduceEqDiff, Nat.reduceBEq, Nat.reduceLT, Nat.reduceLeDiff, reduceIte, reduceCtorEq, H0, AObj.cells.injEq]
      | some c =>
        obtain ⟨hc1, hc2⟩ := hb c rfl
        have hWc := hW.out c hc1 hc2
        have hV := loopV_hit hlt hall.out hAt'
        dsimp only [bInt]
        have dm : decide ((0 : Int) ≤ (c : Int)) = true := dec_t (by omega)
        replace hb := hide hb
        replace hAt' := hide hAt'
        replace hV := hide hV
        repeat' (first
          | (simp -implicitDefEqProofs only [*, zr, Nat.reduceAdd, Nat.reduceSub, Nat.reduceMul, Nat.reduceLT, Nat.reduceLeDiff, Nat.reduceEqDiff, Nat.reduceBEq, reduceIte, reduceCtorEq, Int.reduceLE, Int.reduceLT, Int.reduceToNat, Int.reduceEq, Int.reduceNe])
          | ((first | apply condS_splitN | apply condS_split | apply guardS_splitTN | apply guardS_splitFN | apply guardD_splitTN | apply guardD_splitFN | apply guardS_splitT | apply guardS_splitF | apply guardD_splitT | apply guardD_splitF) <;> intro hc)
          | (refine callP0 rfl ?_)
          | (refine callD0 rfl ?_)
          | fail)
        have hwl : (wayV D F c).length ≤ 1002 := by
          have hg : ∀ (m a : Nat), (wayGo D F m a).length = m := fun m => by
            induction m with
            | zero => exact fun a => rfl
            | succ m ih => intro a; rw [wayGo, List.length_cons, ih]
          have := (hFlo.out c hc1).2
          rw [wayV, List.length_cons, hg]; omega
        have hw8 := nle_t (show (1 + (wayV D F c).length) * 8 ≤ 140737488355328 by omega)
        refine callPk 1 rfl hWc rfl (LeL.refl _) rfl (fun _ h => absurd h (Nat.not_lt_zero _)) ?_
        simp -implicitDefEqProofs only [*, frN, zr, Nat.reduceAdd, Nat.reduceSub, Nat.reduceMul, Nat.reduceLT, Nat.reduceLeDiff, Nat.reduceEqDiff, Nat.reduceBEq, reduceIte, reduceCtorEq, Int.reduceLE, Int.reduceLT, Int.reduceToNat, Int.reduceEq, Int.reduceNe]
        refine ax_weakA [] (nw := []) (n := 73) (el := [(66, .f (.fr 1 ((i :: wayV D F c).map fun n => [fN n])))]) (hl := []) rfl ?_ ?_
        · refine ⟨rfl, small_upd rfl (small_upd rfl (small_mk rfl)), rfl, rfl, rfl, ⟨by decide, ?_, trivial⟩, trivial⟩
          have hso : SlotOk (upd (upd (mkH []) 61 (1, some (.cells [.f (.int .i64 i)]))) 61 (2, some (.cells (.f (.int .i64 i) :: List.map AV.f (List.map (fun n => [fN n]) (wayV D F c)).flatten)))) (mkH []) [] (.sl 61 2 1 0 (1 + (wayV D F c).length)) (.f (.fr 1 ((i :: wayV D F c).map fun n => [fN n]))) :=
            so_sl (cs := fN i :: (List.map (fun n => [fN n]) (wayV D F c)).flatten) rfl rfl (by rw [List.length_map, List.length_cons]; omega) (fun x hx => by obtain ⟨y, _, rfl⟩ := List.mem_map.1 hx; rfl) rfl
          exact hso
        have hV' := hV.out
        rw [hV']
        generalize hwy : i :: wayV D F c = w at *
        have hwl' : w.length ≤ 1003 ∧ 1 ≤ w.length := by rw [← hwy, List.length_cons]; omega
        obtain ⟨m, hm'⟩ : ∃ m, w.length = m + 1 := ⟨w.length - 1, by omega⟩
        have hwr : IntKind.i64.wrap (((m + 1 : Nat) : Int) - 1) = ((m : Nat) : Int) := by rw [wrap64] <;> omega
        have e1 : ((0 : Int) ≤ (m : Int)) = True := by rw [eq_iff_iff, iff_true]; omega
        have e2 : ((m : Int) ≤ ((m + 1 : Nat) : Int)) = True := by rw [eq_iff_iff, iff_true]; omega
        clear hV hV' hAt' hall
        replace hwy := hide hwy
        refine srun_sound 300 _ _ _ _ ?_
        repeat' (first
          | (simp -implicitDefEqProofs only [*, Int.le_refl, zr, Nat.reduceAdd, Nat.reduceSub, Nat.reduceMul, Nat.reduceLT, Nat.reduceLeDiff, Nat.reduceEqDiff, Nat.reduceBEq, reduceIte, reduceCtorEq, Int.reduceLE, Int.reduceLT, Int.reduceToNat, Int.reduceEq, Int.reduceNe])
          | ((first | apply condS_splitN | apply condS_split | apply guardS_splitTN | apply guardS_splitFN | apply guardD_splitTN | apply guardD_splitFN | apply guardS_splitT | apply guardS_splitF | apply guardD_splitT | apply guardD_splitF) <;> intro hc)
          | (refine callP0 rfl ?_)
          | (refine callD0 rfl ?_)
          | fail)
        refine ret_ve ?_
        rw [show ordR (some (i :: wayV D F c).dropLast) = frN (i :: wayV D F c).dropLast from rfl, hwy.out, frN, List.dropLast_eq_take, hm', List.map_take]; rfl
  · obtain rfl : s = g.length := by omega
    have g2 := lt_f hge
    rw [loopV_none hall]
    replace hall := hide hall
    repeat' (first
      | (simp -implicitDefEqProofs only [*, zr, Nat.reduceAdd, Nat.reduceSub, Nat.reduceMul, Nat.reduceLT, Nat.reduceLeDiff, Nat.reduceEqDiff, Nat.reduceBEq, reduceIte, reduceCtorEq, Int.reduceLE, Int.reduceLT, Int.reduceToNat, Int.reduceEq, Int.reduceNe])
      | ((first | apply condS_splitN | apply condS_split | apply guardS_splitTN | apply guardS_splitFN | apply guardD_splitTN | apply guardD_splitFN | apply guardS_splitT | apply guardS_splitF | apply guardD_splitT | apply guardD_splitF) <;> intro hc)
      | (refine callP0 rfl ?_)
      | (refine callD0 rfl ?_)
      | fail)
    exact ret_ve rfl
end Go.Proofs.YtaiajaibcpkceaaDoor
