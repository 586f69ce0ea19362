/-
  The units from each work on are the work ahead of its node: plain law. No statement of the seat is proved here; no conditions.
-/
import Derived.Test.YtbnmclcoekehbaaDoorWkP
namespace Go.Proofs.YtbnmclcoekehbaaDoor
open Go.RowKit Go.Shelf
set_option linter.unusedVariables false
set_option linter.unusedSimpArgs false
set_option maxRecDepth 100000

theorem WOk.inv {l : List Work} : WInv (aftE l) l.length (wGo (aftE l) l.length (l.length + 1) (List.replicate l.length false, [])) := wGo_inv _ _ wInv_0
/-- Where something stands in a row. -/
theorem pos_lt {D : List (List Nat)} {o : List Nat} (hnd : o.Nodup) (hb : Before D o) {p q u v : Nat} (hp : o[p]? = some u) (hq : o[q]? = some v) (hv : v ∈ D.getD u []) : q < p := by
  obtain ⟨r, hr⟩ := List.mem_iff_getElem?.1 (hb p u hp v hv)
  have hrp : r < p := by have := (List.getElem?_eq_some_iff.1 hr).1; rw [List.length_take] at this; omega
  rw [List.getElem?_take_of_lt hrp] at hr
  obtain ⟨a1, a2⟩ := List.getElem?_eq_some_iff.1 hr
  obtain ⟨b1, b2⟩ := List.getElem?_eq_some_iff.1 hq
  have := (List.getElem_inj (h₀ := a1) (h₁ := b1) hnd).1 (a2.trans b2.symm)
  omega
theorem no_loop {g : Graph} (hG : GOk g) {o : List Nat} (hnd : o.Nodup) (hlt : ∀ i ∈ o, i < g.length) (hl : o.length = g.length) (hb : Before (allDeps g) o) : (orderOf g).isSome = true := by
  cases ho : orderOf g with
  | some x => rfl
  | none =>
    exfalso
    obtain ⟨lp, hlp⟩ := Option.isSome_iff_exists.1 ((order_iff hG).1 ho)
    obtain ⟨m, hm1, hm2, _⟩ := loop_spec (net_ok hG) (net_mutual hG) hlp
    have key : ∀ j, j ≤ m → ∃ u p, lp[j]? = some u ∧ o[p]? = some u ∧ ∀ u0 p0, lp[0]? = some u0 → o[p0]? = some u0 → p + j ≤ p0 := by
      intro j
      induction j with
      | zero =>
        intro _
        obtain ⟨u, v, h1, _, _, h4, _⟩ := hm2 0 (by omega)
        obtain ⟨p, hp⟩ := List.mem_iff_getElem?.1 (nd_all hnd hlt hl h4)
        refine ⟨u, p, h1, hp, fun u0 p0 e1 e2 => ?_⟩
        rw [h1] at e1; obtain rfl := Option.some.inj e1
        obtain ⟨a1, a2⟩ := List.getElem?_eq_some_iff.1 hp
        obtain ⟨b1, b2⟩ := List.getElem?_eq_some_iff.1 e2
        have := (List.getElem_inj (h₀ := a1) (h₁ := b1) hnd).1 (a2.trans b2.symm)
        omega
      | succ j ih =>
        intro hj
        obtain ⟨u, p, h1, h2, h3⟩ := ih (by omega)
        obtain ⟨u', v, g1, g2, g3, g4, g5⟩ := hm2 j (by omega)
        rw [h1] at g1; obtain rfl := Option.some.inj g1
        rw [Nat.mod_eq_of_lt (by omega)] at g2
        obtain ⟨q, hq⟩ := List.mem_iff_getElem?.1 (nd_all hnd hlt hl g5)
        have hqp := pos_lt hnd hb h2 hq g3
        refine ⟨v, q, g2, hq, fun u0 p0 e1 e2 => ?_⟩
        have := h3 u0 p0 e1 e2
        omega
    obtain ⟨u, p, h1, h2, h3⟩ := key m (Nat.le_refl _)
    obtain ⟨u', v, g1, g2, g3, g4, g5⟩ := hm2 m (by omega)
    rw [h1] at g1; obtain rfl := Option.some.inj g1
    rw [Nat.mod_self] at g2
    obtain ⟨q, hq⟩ := List.mem_iff_getElem?.1 (nd_all hnd hlt hl g5)
    have hqp := pos_lt hnd hb h2 hq g3
    have := h3 v q g2 hq
    omega
theorem WOk.tree {l : List Work} (h : WOk l) : treeErr (gOf l) = 0 := by
  obtain ⟨h1, h2⟩ := h.gok
  have hI := WOk.inv (l := l)
  unfold treeErr
  rw [h1, if_neg (fun h => h rfl), if_pos]
  refine no_loop h2 (o := ordWV l) hI.nd (fun i hi => by rw [gOf_len]; exact hI.lt i hi) (by rw [gOf_len]; exact h.ord) ?_
  rw [WOk.deps]; exact hI.bd
/-! ### The sums -/
theorem maxAt_same {S : List Int} {a : Int} {L M : List Nat} (h : ∀ u, u ∈ L ↔ u ∈ M) : maxAt S a L = maxAt S a M := by
  have key : ∀ {L M : List Nat}, (∀ u, u ∈ L → u ∈ M) → maxAt S a L ≤ maxAt S a M := fun {L M} h => by
    obtain ⟨h1, h2⟩ := maxAt_ge (S := S) (row := M) (a := a)
    rcases maxAt_is (S := S) (row := L) (a := a) with e | ⟨k, hk, e⟩
    · omega
    · rw [e]; exact h2 k (h k hk)
  exact Int.le_antisymm (key fun u hu => (h u).1 hu) (key fun u hu => (h u).2 hu)
theorem maxAt_snoc {S : List Int} {a : Int} {L : List Nat} {k : Nat} : maxAt S a (L ++ [k]) = max (maxAt S a L) (S.getD k 0) := by unfold maxAt; rw [List.foldl_append]; rfl
theorem getD_setW {S : List Int} {i k : Nat} {z : Int} (hk : k < S.length) : (S.set k z).getD i 0 = if i = k then z else S.getD i 0 := by
  rw [List.getD_eq_getElem?_getD, List.getD_eq_getElem?_getD, List.getElem?_set]
  by_cases h : k = i
  · subst h; simp [hk]
  · rw [if_neg h, if_neg (fun e => h e.symm)]
theorem cMax_len {i : Nat} : ∀ {row : List Nat} {S : List Int}, (cMax S i row).length = S.length
  | [], S => rfl
  | k :: row, S => by rw [cMax, List.foldl_cons, ← cMax, cMax_len, List.length_set]
theorem cMax_spec {i : Nat} : ∀ {row : List Nat} {S : List Int}, i ∉ row → (∀ k ∈ row, k < S.length) → ∀ k, (cMax S i row).getD k 0 = if k ∈ row then max (S.getD k 0) (S.getD i 0) else S.getD k 0
  | [], S, _, _, k => rfl
  | j :: row, S, hi, hl, k => by
    have hj := hl j (List.mem_cons_self ..)
    have hij : i ≠ j := fun e => hi (e ▸ List.mem_cons_self ..)
    rw [cMax, List.foldl_cons, ← cMax, cMax_spec (fun h => hi (List.mem_cons_of_mem _ h)) (fun k hk => by rw [List.length_set]; exact hl k (List.mem_cons_of_mem _ hk)), getD_setW hj, getD_setW hj, if_neg hij]
    by_cases h1 : k = j
    · subst h1
      rw [if_pos rfl, if_pos (List.mem_cons_self ..)]
      split
      · omega
      · rfl
    · rw [if_neg h1]
      by_cases h2 : k ∈ row
      · rw [if_pos h2, if_pos (List.mem_cons_of_mem _ h2)]
      · rw [if_neg h2, if_neg (fun h => (List.mem_cons.1 h).elim h1 h2)]
/-- Behind m of them, from the last one on. -/
theorem crit_prefix {E U : List (List Nat)} {wk : Nat → Int} {n : Nat} {r : List Nat} {A : List Int} (hnd : r.Nodup) (hlt : ∀ i ∈ r, i < n) (hE : ∀ i, ∀ k ∈ E.getD i [], k < n) (hU : Before U r) (hm : ∀ u k, u < n → k < n → (u ∈ U.getD k [] ↔ k ∈ E.getD u [])) (hself : ∀ i, i ∉ E.getD i []) (hA : ∀ i, i < n → A.getD i 0 = maxAt A 0 (U.getD i []) + wk i) (hUn : ∀ i, ∀ k ∈ U.getD i [], k < n) :
    ∀ m, m ≤ r.length → ((r.take m).foldl (cStep E wk) (List.replicate n 0)).length = n ∧ (∀ i ∈ r.take m, ((r.take m).foldl (cStep E wk) (List.replicate n 0)).getD i 0 = A.getD i 0) ∧ ∀ k, k < n → k ∉ r.take m → ((r.take m).foldl (cStep E wk) (List.replicate n 0)).getD k 0 = maxAt A 0 ((r.take m).filter fun u => decide (k ∈ E.getD u []))
  | 0, _ => by
    refine ⟨by simp, fun i hi => by simp at hi, fun k hk _ => ?_⟩
    rw [List.take_zero, List.foldl_nil, List.getD_eq_getElem?_getD, List.getElem?_replicate, if_pos hk]; rfl
  | m + 1, hml => by
    obtain ⟨h1, h2, h3⟩ := crit_prefix hnd hlt hE hU hm hself hA hUn m (by omega)
    obtain ⟨i, hi⟩ := get_some (show m < r.length by omega)
    have hin := hlt i (List.mem_of_getElem? hi)
    have hit : i ∉ r.take m := fun h => by
      obtain ⟨q, hq⟩ := List.mem_iff_getElem?.1 h
      have hqm : q < m := by have := (List.getElem?_eq_some_iff.1 hq).1; rw [List.length_take] at this; omega
      rw [List.getElem?_take_of_lt hqm] at hq
      obtain ⟨a1, a2⟩ := List.getElem?_eq_some_iff.1 hq
      obtain ⟨b1, b2⟩ := List.getElem?_eq_some_iff.1 hi
      have := (List.getElem_inj (h₀ := a1) (h₁ := b1) hnd).1 (a2.trans b2.symm)
      omega
    rw [List.take_add_one, hi]
    simp only [Option.toList_some]
    rw [List.foldl_append, List.foldl_cons, List.foldl_nil]
    have hv : ((r.take m).foldl (cStep E wk) (List.replicate n 0)).getD i 0 + wk i = A.getD i 0 := by
      rw [h3 i hin hit, hA i hin]
      congr 1
      refine maxAt_same fun u => ?_
      rw [List.mem_filter, decide_eq_true_eq]
      constructor
      · rintro ⟨hu, hk⟩
        exact (hm u i (hlt u (List.mem_of_mem_take hu)) hin).2 hk
      · intro hu
        exact ⟨hU m i hi u hu, (hm u i (hUn i u hu) hin).1 hu⟩
    generalize (r.take m).foldl (cStep E wk) (List.replicate n 0) = C at *
    have hs1 : (C.set i (C.getD i 0 + wk i)).length = n := by rw [List.length_set, h1]
    have hspec := cMax_spec (i := i) (row := E.getD i []) (S := C.set i (C.getD i 0 + wk i)) (hself i) (fun k hk => by rw [hs1]; exact hE i k hk)
    have hget : ∀ k, (cStep E wk C i).getD k 0 = if k ∈ E.getD i [] then max (if k = i then A.getD i 0 else C.getD k 0) (A.getD i 0) else (if k = i then A.getD i 0 else C.getD k 0) := fun k => by
      unfold cStep
      rw [hspec k, getD_setW (by omega), getD_setW (by omega), if_pos rfl, hv]
    refine ⟨by unfold cStep; rw [cMax_len, hs1], fun k hk => ?_, fun k hk hkt => ?_⟩
    · rw [hget]
      rcases List.mem_append.1 hk with hk | hk
      · have hki : k ≠ i := fun e => hit (e ▸ hk)
        have hkE : k ∉ E.getD i [] := fun he => by
          have hkn := hlt k (List.mem_of_mem_take hk)
          have hu := (hm i k hin hkn).2 he
          obtain ⟨q, hq⟩ := List.mem_iff_getElem?.1 hk
          have hqm : q < m := by have := (List.getElem?_eq_some_iff.1 hq).1; rw [List.length_take] at this; omega
          rw [List.getElem?_take_of_lt hqm] at hq
          have := hU q k hq i hu
          exact hit (List.take_subset_take_left r (by omega) this)
        rw [if_neg hkE, if_neg hki]
        exact h2 k hk
      · rw [List.mem_singleton.1 hk, if_neg (hself i), if_pos rfl]
    · have hki : k ≠ i := fun e => hkt (by rw [e]; simp)
      have hk2 : k ∉ r.take m := fun h => hkt (List.mem_append_left _ h)
      rw [hget, if_neg hki, h3 k hk hk2, List.filter_append]
      by_cases he : k ∈ E.getD i []
      · rw [if_pos he, List.filter_cons_of_pos (by simpa using he), List.filter_nil, maxAt_snoc]
      · rw [if_neg he, List.filter_cons_of_neg (by simpa using he), List.filter_nil, List.append_nil]
theorem crit_ahead {l : List Work} (h : WOk l) : critV l = aheadV (gOf l) := by
  obtain ⟨o, hK⟩ := tok_of h.tree
  have hI := WOk.inv (l := l)
  have hG := hK.ok
  have hgl := gOf_len l
  have hD : allDeps (gOf l) = aftE l := WOk.deps
  have hnd : (ordWV l).reverse.Nodup := List.pairwise_reverse.2 (hI.nd.imp Ne.symm)
  have hlt : ∀ i ∈ (ordWV l).reverse, i < l.length := fun i hi => hI.lt i (List.mem_reverse.1 hi)
  have hEn : ∀ i, ∀ k ∈ (aftE l).getD i [], k < l.length := fun i k hk => by
    rw [← hD, List.getD_eq_getElem?_getD] at hk
    cases e : (allDeps (gOf l))[i]? with
    | none => rw [e] at hk; cases hk
    | some r => rw [e] at hk; have := (hK.net.dr r (List.mem_of_getElem? e)).2 k hk; omega
  have hUn : ∀ i, ∀ k ∈ (usersOf (gOf l)).getD i [], k < l.length := fun i k hk => by have := rowU_lt hK.net i k hk; omega
  have hmu : ∀ u k, u < l.length → k < l.length → (u ∈ (usersOf (gOf l)).getD k [] ↔ k ∈ (aftE l).getD u []) := fun u k hu hk => by
    rw [← hD]
    exact ⟨net_mutual hG k u (by omega) (by omega), net_mutual' hG k u (by omega) (by omega)⟩
  have hBU : Before (usersOf (gOf l)) (ordWV l).reverse := before_rev (D := aftE l) (n := l.length) hI.nd hI.lt h.ord hI.bd hUn fun u x hu hx hm => (hmu x u hx hu).1 hm
  have hself : ∀ i, i ∉ (aftE l).getD i [] := self_of hI.nd hI.lt h.ord hI.bd (by unfold aftE; rw [List.length_map])
  have hA : ∀ i, i < l.length → (aheadV (gOf l)).getD i 0 = maxAt (aheadV (gOf l)) 0 ((usersOf (gOf l)).getD i []) + wkW l i := fun i hi => by
    have e : aheadV (gOf l) = sumsV (usersOf (gOf l)) (wkOf (gOf l)) (gOf l).length o.reverse := by unfold aheadV; rw [hK.ord]; rfl
    have e2 : wkW l i = wkOf (gOf l) i := by
      unfold wkW wkOf gOf
      rw [List.getElem?_map]
      cases l[i]? <;> rfl
    rw [e2, e]
    exact sums_spec (List.pairwise_reverse.2 (hK.nd.imp Ne.symm)) (fun i hi => hK.lt i (List.mem_reverse.1 hi)) hK.bu (by rw [List.length_reverse]; exact hK.len) (by omega)
  have hAl : (aheadV (gOf l)).length = l.length := by unfold aheadV sumsV; rw [sums_len, List.length_replicate, hgl]
  obtain ⟨h1, h2, _⟩ := crit_prefix (E := aftE l) (wk := wkW l) hnd hlt hEn hBU hmu hself hA hUn (ordWV l).reverse.length (Nat.le_refl _)
  rw [List.take_length] at h1 h2
  refine List.ext_getElem? fun i => ?_
  rcases Nat.lt_or_ge i l.length with hi | hi
  · have := h2 i (List.mem_reverse.2 (nd_all hI.nd hI.lt h.ord hi))
    rw [List.getD_eq_getElem?_getD, List.getD_eq_getElem?_getD] at this
    obtain ⟨x, hx⟩ := get_some (l := critV l) (i := i) (by unfold critV; omega)
    obtain ⟨y, hy⟩ := get_some (l := aheadV (gOf l)) (i := i) (by omega)
    rw [hx, hy]
    rw [show ((ordWV l).reverse.foldl (cStep (aftE l) (wkW l)) (List.replicate l.length 0)) = critV l from rfl, hx, hy] at this
    exact congrArg some this
  · rw [List.getElem?_eq_none (by unfold critV; omega), List.getElem?_eq_none (by omega)]
end Go.Proofs.YtbnmclcoekehbaaDoor
