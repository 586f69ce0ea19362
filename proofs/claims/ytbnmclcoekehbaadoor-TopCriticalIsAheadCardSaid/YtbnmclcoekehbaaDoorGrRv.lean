/-
  Reverse, sums, Ahead on the machine. No statement of the seat is proved here; no conditions.
-/
import Derived.Test.YtbnmclcoekehbaaDoorGrZ
import Derived.Test.YtbnmclcoekehbaaDoorLowD
namespace Go.Proofs.YtbnmclcoekehbaaDoor
open Go.RowKit Go.Shelf
set_option linter.unusedVariables false
set_option linter.unusedSimpArgs false
set_option maxRecDepth 100000

/-- The greatest one of a row, or less than nothing. -/
def maxAt (S : List Int) (a : Int) (row : List Nat) : Int := row.foldl (fun m k => max m (S.getD k 0)) a
theorem maxAt_ge {S : List Int} : ∀ {row : List Nat} {a : Int}, a ≤ maxAt S a row ∧ ∀ k ∈ row, S.getD k 0 ≤ maxAt S a row
  | [], a => ⟨Int.le_refl _, fun k hk => by cases hk⟩
  | k :: row, a => by
    obtain ⟨h1, h2⟩ := maxAt_ge (S := S) (row := row) (a := max a (S.getD k 0))
    refine ⟨Int.le_trans (Int.le_max_left _ _) h1, fun j hj => ?_⟩
    rcases List.mem_cons.1 hj with rfl | hj
    · exact Int.le_trans (Int.le_max_right _ _) h1
    · exact h2 j hj
theorem maxAt_is {S : List Int} : ∀ {row : List Nat} {a : Int}, maxAt S a row = a ∨ ∃ k ∈ row, maxAt S a row = S.getD k 0
  | [], a => .inl rfl
  | k :: row, a => by
    rcases maxAt_is (S := S) (row := row) (a := max a (S.getD k 0)) with h | ⟨j, h1, h2⟩
    · rcases Int.le_total a (S.getD k 0) with h3 | h3
      · exact .inr ⟨k, List.mem_cons_self .., h.trans (Int.max_eq_right h3)⟩
      · exact .inl (h.trans (Int.max_eq_left h3))
    · exact .inr ⟨j, List.mem_cons_of_mem _ h1, h2⟩
theorem maxAt_congr {S T : List Int} {row : List Nat} (h : ∀ k ∈ row, S.getD k 0 = T.getD k 0) : ∀ {a : Int}, maxAt S a row = maxAt T a row := by
  induction row with
  | nil => intro a; rfl
  | cons k row ih =>
    intro a
    unfold maxAt at ih ⊢
    rw [List.foldl_cons, List.foldl_cons, h k (List.mem_cons_self ..)]
    exact ih fun j hj => h j (List.mem_cons_of_mem _ hj)
/-- One node's sum. -/
def sumStep (E : List (List Nat)) (wk : Nat → Int) (S : List Int) (i : Nat) : List Int := S.set i (maxAt S (S.getD i 0) (E.getD i []) + wk i)
/-- For each node, in an order, its work and the greatest sum of those that edges lead to. -/
def sumsV (E : List (List Nat)) (wk : Nat → Int) (n : Nat) (o : List Nat) : List Int := o.foldl (sumStep E wk) (List.replicate n 0)
theorem sumStep_len {E : List (List Nat)} {wk : Nat → Int} {S : List Int} {i : Nat} : (sumStep E wk S i).length = S.length := by simp [sumStep]
theorem sums_len {E : List (List Nat)} {wk : Nat → Int} : ∀ {o : List Nat} {S : List Int}, (o.foldl (sumStep E wk) S).length = S.length
  | [], S => rfl
  | i :: o, S => by rw [List.foldl_cons, sums_len, sumStep_len]
theorem getD_set' {S : List Int} {i k : Nat} {x : Int} (hi : i < S.length) : (S.set i x).getD k 0 = if i = k then x else S.getD k 0 := getD_set hi
/-- The order stands: each one's edges lead to what came before. -/
def Before (E : List (List Nat)) (o : List Nat) : Prop := ∀ (k i : Nat), o[k]? = some i → ∀ d ∈ E.getD i [], d ∈ o.take k
theorem sums_prefix {E : List (List Nat)} {wk : Nat → Int} {n : Nat} {o : List Nat} (hnd : o.Nodup) (hlt : ∀ i ∈ o, i < n) (hb : Before E o) : ∀ m : Nat, m ≤ o.length →
    (∀ i, i ∈ o.take m → ((o.take m).foldl (sumStep E wk) (List.replicate n 0)).getD i 0 = maxAt ((o.take m).foldl (sumStep E wk) (List.replicate n 0)) 0 (E.getD i []) + wk i) ∧ ∀ i, i ∉ o.take m → ((o.take m).foldl (sumStep E wk) (List.replicate n 0)).getD i 0 = 0
  | 0, _ => by
    refine ⟨fun i hi => by simp at hi, fun i _ => ?_⟩
    rw [List.take_zero, List.foldl_nil, List.getD_eq_getElem?_getD, List.getElem?_replicate]
    split <;> rfl
  | m + 1, hm => by
    obtain ⟨h1, h2⟩ := sums_prefix (wk := wk) (n := n) hnd hlt hb m (by omega)
    have hlen : ((o.take m).foldl (sumStep E wk) (List.replicate n 0)).length = n := by rw [sums_len, List.length_replicate]
    obtain ⟨x, hx⟩ : ∃ x, o[m]? = some x := ⟨_, List.getElem?_eq_getElem (by omega)⟩
    have hxn := hlt x (List.mem_of_getElem? hx)
    have ht : o.take (m + 1) = o.take m ++ [x] := by rw [List.take_add_one, hx]; rfl
    have hxnot : x ∉ o.take m := fun h => by
      obtain ⟨j, hj⟩ := List.mem_iff_getElem?.1 h
      have hjm : j < m := by have := (List.getElem?_eq_some_iff.1 hj).1; rw [List.length_take] at this; omega
      rw [List.getElem?_take_of_lt hjm] at hj
      obtain ⟨a1, a2⟩ := List.getElem?_eq_some_iff.1 hj
      obtain ⟨b1, b2⟩ := List.getElem?_eq_some_iff.1 hx
      have := (List.getElem_inj (h₀ := a1) (h₁ := b1) hnd).1 (a2.trans b2.symm)
      omega
    rw [ht, List.foldl_append, List.foldl_cons, List.foldl_nil]
    generalize (o.take m).foldl (sumStep E wk) (List.replicate n 0) = S at *
    have hS : ∀ k, (sumStep E wk S x).getD k 0 = if x = k then maxAt S 0 (E.getD x []) + wk x else S.getD k 0 := fun k => by
      rw [sumStep, getD_set' (by omega), h2 x hxnot]
    have hrow : ∀ i, i ∈ o.take m ∨ i = x → ∀ k ∈ E.getD i [], k ≠ x := fun i hi k hk e => by
      subst e
      rcases hi with hi | rfl
      · obtain ⟨j, hj⟩ := List.mem_iff_getElem?.1 hi
        have hjm : j < m := by have := (List.getElem?_eq_some_iff.1 hj).1; rw [List.length_take] at this; omega
        rw [List.getElem?_take_of_lt hjm] at hj
        have := hb j i hj k hk
        exact hxnot (List.mem_of_mem_take (by rw [List.take_take, Nat.min_eq_left (by omega)] ; exact this : k ∈ (o.take m).take j))
      · exact hxnot (hb m i hx i hk)
    have hcong : ∀ i, i ∈ o.take m ∨ i = x → maxAt (sumStep E wk S x) 0 (E.getD i []) = maxAt S 0 (E.getD i []) := fun i hi => maxAt_congr fun k hk => by rw [hS, if_neg (hrow i hi k hk).symm]
    refine ⟨fun i hi => ?_, fun i hi => ?_⟩
    · rcases List.mem_append.1 hi with hi | hi
      · rw [hS, if_neg (fun e : x = i => hxnot (by rw [e]; exact hi)), hcong i (.inl hi)]; exact h1 i hi
      · rw [List.mem_singleton.1 hi, hS, if_pos rfl, hcong x (.inr rfl)]
    · rw [hS, if_neg (fun e => hi (by rw [← e]; simp))]
      exact h2 i fun h => hi (List.mem_append_left _ h)
/-- The sums, when the order holds all. -/
theorem sums_spec {E : List (List Nat)} {wk : Nat → Int} {n : Nat} {o : List Nat} (hnd : o.Nodup) (hlt : ∀ i ∈ o, i < n) (hb : Before E o) (hl : o.length = n) {i : Nat} (hi : i < n) : (sumsV E wk n o).getD i 0 = maxAt (sumsV E wk n o) 0 (E.getD i []) + wk i := by
  have h := (sums_prefix (wk := wk) (n := n) hnd hlt hb o.length (Nat.le_refl _)).1 i
  rw [List.take_length] at h
  exact h (nd_all hnd hlt hl hi)
/-- An order turned round is one of the edges turned round. -/
theorem before_rev {D U : List (List Nat)} {n : Nat} {o : List Nat} (hnd : o.Nodup) (hlt : ∀ i ∈ o, i < n) (hl : o.length = n) (hb : Before D o) (hU : ∀ i, ∀ k ∈ U.getD i [], k < n) (hm : ∀ u x, u < n → x < n → x ∈ U.getD u [] → u ∈ D.getD x []) : Before U o.reverse := fun k i hk d hd => by
  have hkl : k < o.length := by have := (List.getElem?_eq_some_iff.1 hk).1; rwa [List.length_reverse] at this
  have hik := hk
  rw [List.getElem?_reverse hkl] at hk
  have hi := hlt i (List.mem_of_getElem? hk)
  have hdn := hU i d hd
  have hid := hm i d hi hdn hd
  obtain ⟨p, hp⟩ := List.mem_iff_getElem?.1 (nd_all hnd hlt hl hdn)
  have h1 := hb p d hp i hid
  obtain ⟨q, hq⟩ := List.mem_iff_getElem?.1 h1
  have hpl := (List.getElem?_eq_some_iff.1 hp).1
  have hqp : q < p := by have := (List.getElem?_eq_some_iff.1 hq).1; rw [List.length_take] at this; omega
  rw [List.getElem?_take_of_lt hqp] at hq
  obtain ⟨a1, a2⟩ := List.getElem?_eq_some_iff.1 hq
  obtain ⟨b1, b2⟩ := List.getElem?_eq_some_iff.1 hk
  have hqe := (List.getElem_inj (h₀ := a1) (h₁ := b1) hnd).1 (a2.trans b2.symm)
  refine List.mem_iff_getElem?.2 ⟨o.length - 1 - p, ?_⟩
  rw [List.getElem?_take_of_lt (by omega), List.getElem?_reverse (by omega), show o.length - 1 - (o.length - 1 - p) = p by omega, hp]
theorem ck_work {n : Node} (h : ckNode n = 0) : n.2.2.2.1.length ≤ 1000 ∧ 0 ≤ n.2.2.2.2.2 ∧ n.2.2.2.2.2 ≤ 1000000 := by
  unfold ckNode at h
  split at h
  · cases h
  · split at h
    · cases h
    · split at h
      · cases h
      · split at h
        · rename_i h1; exact absurd h h1
        · split at h
          · cases h
          · rename_i h1
            refine ⟨by omega, ?_⟩
            split at h
            · rename_i h2; exact absurd h h2
            · split at h
              · cases h
              · split at h
                · rename_i h2; exact absurd h h2
                · split at h
                  · cases h
                  · rename_i h3
                    simp only [Bool.or_eq_true, decide_eq_true_eq] at h3
                    omega
theorem tree_okS {g : Graph} (h0 : treeErr g = 0) : GOk g ∧ ∃ l, orderOf g = some l := by
  have h1 : opErr g = 0 := by
    unfold treeErr at h0
    split at h0
    · rename_i h; exact absurd h0 h
    · rename_i h; simpa using h
  refine ⟨gok_of h1, ?_⟩
  unfold treeErr at h0
  rw [h1, if_neg (show ¬ ((0 : Int) ≠ 0) from fun h => h rfl)] at h0
  split at h0
  · rename_i h; exact Option.isSome_iff_exists.1 h
  · cases h0
/-- m is l with its first s and its last s turned round. -/
def RevTo {α : Type} (l m : List α) (s : Nat) : Prop := m.length = l.length ∧ ∀ k : Nat, k < l.length → m[k]? = if k < s ∨ l.length ≤ k + s then l[l.length - 1 - k]? else l[k]?
theorem rev_0 {α : Type} (l : List α) : RevTo l l 0 := ⟨rfl, fun k hk => by rw [if_neg (by omega)]⟩
theorem rev_end {α : Type} {l m : List α} {s : Nat} (h : RevTo l m s) (hs : l.length ≤ 2 * s + 1) : m = l.reverse := by
  refine List.ext_getElem? fun k => ?_
  rcases Nat.lt_or_ge k l.length with hk | hk
  · rw [h.2 k hk, List.getElem?_reverse hk]
    split
    · rfl
    · rw [show l.length - 1 - k = k by omega]
  · rw [List.getElem?_eq_none (by rw [h.1]; exact hk), List.getElem?_eq_none (by rw [List.length_reverse]; exact hk)]
theorem rev_step {α : Type} {l m : List α} {s : Nat} {x y : α} (h : RevTo l m s) (hs : 2 * s + 1 < l.length) (hx : m[s]? = some x) (hy : m[l.length - 1 - s]? = some y) : RevTo l ((m.set s y).set (l.length - 1 - s) x) (s + 1) := by
  have e1 := h.2 s (by omega)
  have e2 := h.2 (l.length - 1 - s) (by omega)
  rw [if_neg (by omega), hx] at e1
  rw [if_neg (by omega), hy] at e2
  refine ⟨by rw [List.length_set, List.length_set]; exact h.1, fun k hk => ?_⟩
  by_cases k1 : k = l.length - 1 - s
  · subst k1
    rw [List.getElem?_set_self (by rw [List.length_set, h.1]; omega), if_pos (by omega), show l.length - 1 - (l.length - 1 - s) = s by omega, ← e1]
  · rw [List.getElem?_set_ne (fun e => k1 e.symm)]
    by_cases k2 : k = s
    · subst k2
      rw [List.getElem?_set_self (by rw [h.1]; omega), if_pos (by omega), ← e2]
    · rw [List.getElem?_set_ne (fun e => k2 e.symm), h.2 k hk]
      by_cases k3 : k < s ∨ l.length ≤ k + s
      · rw [if_pos k3, if_pos (by omega)]
      · rw [if_neg k3, if_neg (by omega)]
theorem reverse_f (l : List Nat) (hl : l.length ≤ 1000000) (hn : 0 < l.length) : FRetI Tryd.prog 12 1 l.length ((l.map fN).map .v) [] [] ((l.reverse.map fN).map .v) [] := by
  have hH : upd (putHs 80000 (nextCs 0 ((l.map fN).map RC.v)) [] (putHcs 80000 0 ((l.map fN).map RC.v) H0)) 100001 (1, some (.cells (putCs 80000 0 ((l.map fN).map RC.v)))) = upd H0 100001 (1, some (.cells ((l.map fN).map .f))) := by
    rw [putCs_v, putHcs_v]; rfl
  unfold FRetI FRetH
  rw [hH]
  refine FCall.of_ax low_slices_Reverse_int_int ?_
  dsimp only [l_slices_Reverse_int_int]
  refine srun_sound 300 _ _ _ _ ?_
  have hw : IntKind.i64.wrap ((l.length : Int) - 1) = ((l.length - 1 : Nat) : Int) := by rw [wrap64] <;> omega
  repeat' (first
    | (simp -implicitDefEqProofs only [*, putS, zr, Nat.reduceAdd, Nat.reduceSub, Nat.reduceMul, Nat.reduceLT, Nat.reduceLeDiff, Nat.reduceEqDiff, Nat.reduceBEq, reduceIte, reduceCtorEq, Int.reduceLE, Int.reduceLT, Int.reduceToNat, Int.reduceEq, Int.reduceNe])
    | ((first | apply zk0 | apply zk1 | apply zk2 | apply zk3 | apply zk4 | apply zk5 | apply zk6 | apply zk7 | apply zk8 | apply zk9) <;> intro hc)
    | (refine callP0 rfl ?_)
    | (refine callD0 rfl ?_)
    | fail)
  refine ax_loopU (S := Nat × List Nat) 28 [0] [] (fun s => [(2, .f (.int .i64 s.1)), (3, .f (.int .i64 ((l.length : Int) - 1 - s.1)))]) (fun s => [(100001, 1, .cells ((s.2.map fN).map .f))]) (fun s => RevTo l s.2 s.1 ∧ 2 * s.1 ≤ l.length) (fun s => l.length - s.1) (0, l) [] ?_ ?_ fun s hs => ?_
  · exact ⟨rev_0 l, Nat.zero_le _⟩
  · refine wk_i ?_ ?_ <;> simp only [zw, Nat.reduceEqDiff, Nat.reduceBEq, Nat.reduceLT, Nat.reduceLeDiff, reduceIte, reduceCtorEq]
    congr 1; omega
  obtain ⟨s, m⟩ := s
  obtain ⟨hr, hs2⟩ := hs
  dsimp only at hr hs2 ⊢
  refine srun_sound 300 _ _ _ _ ?_
  have hml := hr.1
  rcases Nat.lt_or_ge (2 * s + 1) l.length with hlt | hge
  · obtain ⟨x, hx⟩ := get_some (l := m) (i := s) (by omega)
    obtain ⟨y, hy⟩ := get_some (l := m) (i := l.length - 1 - s) (by omega)
    have hst := rev_step hr hlt hx hy
    have e1 : (l.length : Int) - 1 - (s : Int) = ((l.length - 1 - s : Nat) : Int) := by omega
    have e2 : (l.length : Int) - 1 - ((s + 1 : Nat) : Int) = ((l.length - 1 - (s + 1) : Nat) : Int) := by omega
    have e3 : IntKind.i64.wrap (((l.length - 1 - s : Nat) : Int) - 1) = ((l.length - 1 - (s + 1) : Nat) : Int) := by rw [wrap64] <;> omega
    have h4 := inc64 (i := s) (n := l.length) (by omega) (by omega)
    have d1 : decide (s < l.length - 1 - s) = true := dec_t (by omega)
    have d2 : decide (s < l.length) = true := dec_t (by omega)
    have d3 : decide (l.length - 1 - s < l.length) = true := dec_t (by omega)
    rw [e1]
    have hset : ((((m.map fN).map AV.f).set s (.f (.int .i64 y))).set (l.length - 1 - s) (.f (.int .i64 x))) = (((m.set s y).set (l.length - 1 - s) x).map fN).map .f := by simp [List.map_set, fN]
    replace hr := hide hr
    replace hst := hide hst
    generalize hj : l.length - 1 - s = j at *
    generalize hj2 : l.length - 1 - (s + 1) = j2 at *
    clear hw
    replace hj := hide hj
    replace hj2 := hide hj2
    replace e1 := hide e1
    have p1 : (s < l.length) = True := by rw [eq_iff_iff, iff_true]; omega
    have p2 : (j < l.length) = True := by rw [eq_iff_iff, iff_true]; have := hj.out; omega
    have k1 := nle_t (show s + 1 ≤ l.length by omega)
    have k2 := nle_t (show j + 1 ≤ l.length by have := hj.out; omega)
    repeat' (first
      | (simp -implicitDefEqProofs only [*, List.getElem?_map, Option.map_some, fN, zr, Nat.reduceAdd, Nat.reduceSub, Nat.reduceMul, Nat.reduceLT, Nat.reduceLeDiff, Nat.reduceEqDiff, Nat.reduceBEq, reduceIte, reduceCtorEq, Int.reduceLE, Int.reduceLT, Int.reduceToNat, Int.reduceEq, Int.reduceNe])
      | ((first | apply zk0 | apply zk1 | apply zk2 | apply zk3 | apply zk4 | apply zk5 | apply zk6 | apply zk7 | apply zk8 | apply zk9) <;> intro hc)
      | (refine callP0 rfl ?_)
      | (refine callD0 rfl ?_)
      | fail)
    refine ⟨(s + 1, (m.set s y).set j x), ⟨hst.out, by dsimp only; omega⟩, by dsimp only; omega, ?_⟩
    dsimp only
    rw [e2]
    refine wk_i ?_ ?_ <;> simp only [hset, zw, Nat.reduceEqDiff, Nat.reduceBEq, Nat.reduceLT, Nat.reduceLeDiff, reduceIte, reduceCtorEq]
  · have hme := rev_end hr (by omega)
    have d1 : decide ((s : Int) < (l.length : Int) - 1 - (s : Int)) = false := dec_f (by omega)
    replace hr := hide hr
    repeat' (first
      | (simp -implicitDefEqProofs only [*, zr, Nat.reduceAdd, Nat.reduceSub, Nat.reduceMul, Nat.reduceLT, Nat.reduceLeDiff, Nat.reduceEqDiff, Nat.reduceBEq, reduceIte, reduceCtorEq, Int.reduceLE, Int.reduceLT, Int.reduceToNat, Int.reduceEq, Int.reduceNe])
      | ((first | apply zk0 | apply zk1 | apply zk2 | apply zk3 | apply zk4 | apply zk5 | apply zk6 | apply zk7 | apply zk8 | apply zk9) <;> intro hc)
      | (refine callP0 rfl ?_)
      | (refine callD0 rfl ?_)
      | fail)
    exact ⟨[], (l.reverse.map fN).map .f, rfl, rfl, rcsOk_v _, rfl, by rw [idsC_f]; exact List.nodup_nil, by rw [idsC_f]; simp [idsS]⟩
def wkOf (g : Graph) (i : Nat) : Int := match g[i]? with
  | some x => x.2.2.2.2.2
  | none => 0
theorem wkOf_of {g : Graph} {i : Nat} {x : Node} (h : g[i]? = some x) : wkOf g i = x.2.2.2.2.2 := by unfold wkOf; rw [h]
def SB (n : Nat) (B : Int) (S : List Int) : Prop := S.length = n ∧ ∀ k, 0 ≤ S.getD k 0 ∧ S.getD k 0 ≤ B
theorem maxAt_b {S : List Int} {n : Nat} {B : Int} (h : SB n B S) (i : Nat) (row : List Nat) : 0 ≤ maxAt S (S.getD i 0) row ∧ maxAt S (S.getD i 0) row ≤ B := by
  refine ⟨Int.le_trans (h.2 i).1 maxAt_ge.1, ?_⟩
  rcases maxAt_is (S := S) (row := row) (a := S.getD i 0) with h1 | ⟨k, _, h1⟩
  · rw [h1]; exact (h.2 i).2
  · rw [h1]; exact (h.2 k).2
theorem sumStep_b {E : List (List Nat)} {wk : Nat → Int} {S : List Int} {n : Nat} {B : Int} {i : Nat} (h : SB n B S) (hi : i < n) (h0 : 0 ≤ wk i) (h1 : wk i ≤ 1000000) : SB n (B + 1000000) (sumStep E wk S i) := by
  refine ⟨by rw [sumStep_len]; exact h.1, fun k => ?_⟩
  rw [sumStep, getD_set' (by rw [h.1]; exact hi)]
  split
  · have := maxAt_b h i (E.getD i []); omega
  · have := h.2 k; omega
theorem sums_b {E : List (List Nat)} {wk : Nat → Int} {n : Nat} {o : List Nat} (ho : ∀ i ∈ o, i < n) (hw : ∀ i, 0 ≤ wk i ∧ wk i ≤ 1000000) : ∀ s : Nat, SB n (1000000 * s) ((o.take s).foldl (sumStep E wk) (List.replicate n 0))
  | 0 => ⟨by simp, fun k => by
    rw [List.take_zero, List.foldl_nil, List.getD_eq_getElem?_getD, List.getElem?_replicate]
    split <;> simp⟩
  | s + 1 => by
    have h := sums_b (E := E) (n := n) ho hw s
    rw [List.take_add_one]
    cases e : o[s]? with
    | none =>
      rw [Option.toList_none, List.append_nil]
      exact ⟨h.1, fun k => by have := h.2 k; omega⟩
    | some i =>
      rw [Option.toList_some, List.foldl_append, List.foldl_cons, List.foldl_nil]
      have := sumStep_b (E := E) h (ho i (List.mem_of_getElem? e)) (hw i).1 (hw i).2
      exact ⟨this.1, fun k => by have := this.2 k; omega⟩
theorem sums_f (g : Graph) (D U E : List (List Nat)) (o : List Nat) (hn : g.length ≤ 1000) (hE : E.length = g.length) (hEr : ∀ r ∈ E, r.length ≤ 300000 ∧ ∀ k ∈ r, k < g.length) (hself : ∀ i, i ∉ E.getD i []) (ho : ∀ i ∈ o, i < g.length) (hol : o.length ≤ 1000) (hw : ∀ i, 0 ≤ wkOf g i ∧ wkOf g i ≤ 1000000) :
    FRet Tryd.prog 13 [.f (fNet g D U), .f (frN o), .f (frRows E)] [.c (.v (frI (sumsV E (wkOf g) g.length o)))] := by
  have hSB := sums_b (E := E) (wk := wkOf g) (n := g.length) ho hw
  refine FCall.of_ax low_graph_net_sums ?_
  dsimp only [l_graph_net_sums, fNet, frN, frNodes]
  refine srun_sound 300 _ _ _ _ ?_
  have k0 := le_tt (show (0 : Int) ≤ (g.length : Int) by omega)
  have k1 := le_tt (show ((g.length : Int) * ((8 : Nat) : Int)) ≤ 140737488355328 by omega)
  have k2 := le_tt (show (g.length : Int) ≤ 9223372036854775807 by omega)
  replace hEr := hide hEr
  replace hself := hide hself
  replace ho := hide ho
  replace hw := hide hw
  replace hSB := hide hSB
  repeat' (first
    | (simp -implicitDefEqProofs only [*, Int.le_refl, zr, Nat.reduceAdd, Nat.reduceSub, Nat.reduceMul, Nat.reduceLT, Nat.reduceLeDiff, Nat.reduceEqDiff, Nat.reduceBEq, reduceIte, reduceCtorEq, Int.reduceLE, Int.reduceLT, Int.reduceToNat, Int.reduceEq, Int.reduceNe])
    | ((first | apply zk0 | apply zk1 | apply zk2 | apply zk3 | apply zk4 | apply zk5 | apply zk6 | apply zk7 | apply zk8 | apply zk9) <;> intro hc)
    | (refine callP0 rfl ?_)
    | (refine callD0 rfl ?_)
    | fail)
  have z0 : zeros g.length [FV.int .i64 0] = ((List.replicate g.length (0 : Int)).map fI).map AV.f := by
    rw [zeros_one]; simp [fI]
  refine ax_loopU (S := Nat) 62 [0, 2, 7, 18, 19] [] (fun s => [(20, .f (.int .i64 s))]) (fun s => [(17, 1, .cells ((((o.take s).foldl (sumStep E (wkOf g)) (List.replicate g.length 0)).map fI).map .f))]) (fun s => s ≤ o.length) (fun s => o.length - s) (0) [] ?_ ?_ fun s hs => ?_
  · exact Nat.zero_le _
  · refine wk_i ?_ ?_ <;> simp only [z0, List.take_zero, List.foldl_nil, zw, Nat.reduceEqDiff, Nat.reduceBEq, Nat.reduceLT, Nat.reduceLeDiff, reduceIte, reduceCtorEq]
  clear z0
  rcases Nat.lt_or_ge s o.length with hlt | hge
  · refine srun_sound 300 _ _ _ _ ?_
    obtain ⟨i, hi⟩ := get_some hlt
    have hin := ho.out i (List.mem_of_getElem? hi)
    have h4 := inc64 hlt (by omega)
    have h2 := lt_t hlt
    have hS := hSB.out s
    have hnx : (o.take (s + 1)).foldl (sumStep E (wkOf g)) (List.replicate g.length 0) = sumStep E (wkOf g) ((o.take s).foldl (sumStep E (wkOf g)) (List.replicate g.length 0)) i := by
      rw [List.take_add_one, hi, List.foldl_append]; rfl
    generalize (o.take s).foldl (sumStep E (wkOf g)) (List.replicate g.length 0) = S at *
    have hSl := hS.1
    obtain ⟨row, hrow⟩ := get_some (l := E) (i := i) (by omega)
    obtain ⟨hrl, hrn⟩ := hEr.out row (List.mem_of_getElem? hrow)
    have hEi : E.getD i [] = row := getD_some hrow
    have hsf := hself.out i
    rw [hEi] at hsf
    have d3 := lt_t hin
    replace hnx := hide hnx
    replace hsf := hide hsf
    repeat' (first
      | (simp -implicitDefEqProofs only [*, List.getElem?_map, Option.map_some, fN, frRows, frN, zr, Nat.reduceAdd, Nat.reduceSub, Nat.reduceMul, Nat.reduceLT, Nat.reduceLeDiff, Nat.reduceEqDiff, Nat.reduceBEq, reduceIte, reduceCtorEq, Int.reduceLE, Int.reduceLT, Int.reduceToNat, Int.reduceEq, Int.reduceNe])
      | ((first | apply zk0 | apply zk1 | apply zk2 | apply zk3 | apply zk4 | apply zk5 | apply zk6 | apply zk7 | apply zk8 | apply zk9) <;> intro hc)
      | (refine callP0 rfl ?_)
      | (refine callD0 rfl ?_)
      | fail)
    obtain ⟨t, rfl⟩ : ∃ t, t = s := ⟨_, rfl⟩
    have hS0 : S.set i (maxAt S (S.getD i 0) (row.take 0)) = S := by
      have hil : i < S.length := by omega
      rw [List.take_zero, show maxAt S (S.getD i 0) [] = S.getD i 0 from rfl, getD_some (List.getElem?_eq_getElem hil), List.set_getElem_self]
    refine ax_loopU (S := Nat) 62 [0, 2, 7, 9, 18, 19, 20, 27, 28] [] (fun s => [(29, .f (.int .i64 s))]) (fun s => [(17, 1, .cells (((S.set i (maxAt S (S.getD i 0) (row.take s))).map fI).map .f))]) (fun s => s ≤ row.length) (fun s => row.length - s) (0) [] ?_ ?_ fun s hs => ?_
    · exact Nat.zero_le _
    · refine wk_i ?_ ?_ <;> simp only [hS0, zw, Nat.reduceEqDiff, Nat.reduceBEq, Nat.reduceLT, Nat.reduceLeDiff, reduceIte, reduceCtorEq]
    clear hS0
    refine srun_sound 300 _ _ _ _ ?_
    rcases Nat.lt_or_ge s row.length with hlt2 | hge2
    · obtain ⟨k, hk⟩ := get_some hlt2
      have hkn := hrn k (List.mem_of_getElem? hk)
      have hki : k ≠ i := fun e => hsf.out (by rw [← e]; exact List.mem_of_getElem? hk)
      have g4 := inc64 hlt2 (by omega)
      have g2 := lt_t hlt2
      have hm : maxAt S (S.getD i 0) (row.take (s + 1)) = max (maxAt S (S.getD i 0) (row.take s)) (S.getD k 0) := by
        unfold maxAt
        rw [List.take_add_one, hk, List.foldl_append]; rfl
      have hii : (S.set i (maxAt S (S.getD i 0) (row.take s)))[i]? = some (maxAt S (S.getD i 0) (row.take s)) := List.getElem?_set_self (by omega)
      have hkk : (S.set i (maxAt S (S.getD i 0) (row.take s)))[k]? = some (S.getD k 0) := by
        rw [List.getElem?_set_ne (fun e => hki e.symm), List.getElem?_eq_getElem (by omega), getD_some (List.getElem?_eq_getElem (by omega))]
      have hset : ((((S.set i (maxAt S (S.getD i 0) (row.take s))).map fI).map AV.f).set i (.f (.int .i64 (max (maxAt S (S.getD i 0) (row.take s)) (S.getD k 0))))) = ((S.set i (maxAt S (S.getD i 0) (row.take (s + 1)))).map fI).map .f := by
        rw [hm, fset, List.set_set]
      have hTl : (S.set i (maxAt S (S.getD i 0) (row.take s))).length = g.length := by rw [List.length_set]; exact hSl
      generalize S.set i (maxAt S (S.getD i 0) (row.take s)) = T at *
      generalize maxAt S (S.getD i 0) (row.take s) = a at *
      generalize S.getD k 0 = b at *
      replace hm := hide hm
      replace hki := hide hki
      have p1 : (i < g.length) = True := by rw [eq_iff_iff, iff_true]; exact hin
      have p2 : (k < g.length) = True := by rw [eq_iff_iff, iff_true]; exact hkn
      have p3 := nle_t (show i + 1 ≤ g.length by omega)
      have p4 := nle_t (show k + 1 ≤ g.length by omega)
      have hfk : fN k = FV.int .i64 k := rfl
      repeat' (first
        | (simp -implicitDefEqProofs only [*, List.getElem?_map, Option.map_some, fI, zr, Nat.reduceAdd, Nat.reduceSub, Nat.reduceMul, Nat.reduceLT, Nat.reduceLeDiff, Nat.reduceEqDiff, Nat.reduceBEq, reduceIte, reduceCtorEq, Int.reduceLE, Int.reduceLT, Int.reduceToNat, Int.reduceEq, Int.reduceNe])
        | ((first | apply zk0 | apply zk1 | apply zk2 | apply zk3 | apply zk4 | apply zk5 | apply zk6 | apply zk7 | apply zk8 | apply zk9) <;> intro hc)
        | (refine callP0 rfl ?_)
        | (refine callD0 rfl ?_)
        | fail)
      refine ⟨s + 1, hlt2, by omega, ?_⟩
      refine wk_i ?_ ?_ <;> simp only [hset, zw, Nat.reduceEqDiff, Nat.reduceBEq, Nat.reduceLT, Nat.reduceLeDiff, reduceIte, reduceCtorEq]
    · obtain rfl : s = row.length := by omega
      have g2 := lt_f hge2
      obtain ⟨x, hx⟩ := get_some hin
      have hwx := hw.out i
      rw [wkOf_of hx] at hwx
      rw [List.take_length]
      have hmb := maxAt_b hS i row
      have hii : (S.set i (maxAt S (S.getD i 0) row))[i]? = some (maxAt S (S.getD i 0) row) := List.getElem?_set_self (by omega)
      have hss : sumStep E (wkOf g) S i = S.set i (maxAt S (S.getD i 0) row + x.2.2.2.2.2) := by rw [sumStep, hEi, wkOf_of hx]
      have hset : ((((S.set i (maxAt S (S.getD i 0) row)).map fI).map AV.f).set i (.f (.int .i64 (maxAt S (S.getD i 0) row + x.2.2.2.2.2)))) = ((sumStep E (wkOf g) S i).map fI).map .f := by
        rw [hss, fset, List.set_set]
      have hTl : (S.set i (maxAt S (S.getD i 0) row)).length = g.length := by rw [List.length_set]; exact hSl
      have hwr : IntKind.i64.wrap (maxAt S (S.getD i 0) row + x.2.2.2.2.2) = maxAt S (S.getD i 0) row + x.2.2.2.2.2 := by rw [wrap64] <;> omega
      generalize sumStep E (wkOf g) S i = S2 at *
      generalize S.set i (maxAt S (S.getD i 0) row) = T at *
      generalize maxAt S (S.getD i 0) row = a at *
      replace hss := hide hss
      have p1 : (i < g.length) = True := by rw [eq_iff_iff, iff_true]; exact hin
      have p3 := nle_t (show i + 1 ≤ g.length by omega)
      repeat' (first
        | (simp -implicitDefEqProofs only [*, List.getElem?_map, Option.map_some, fI, fNode, zr, Nat.reduceAdd, Nat.reduceSub, Nat.reduceMul, Nat.reduceLT, Nat.reduceLeDiff, Nat.reduceEqDiff, Nat.reduceBEq, reduceIte, reduceCtorEq, Int.reduceLE, Int.reduceLT, Int.reduceToNat, Int.reduceEq, Int.reduceNe])
        | ((first | apply zk0 | apply zk1 | apply zk2 | apply zk3 | apply zk4 | apply zk5 | apply zk6 | apply zk7 | apply zk8 | apply zk9) <;> intro hc)
        | (refine callP0 rfl ?_)
        | (refine callD0 rfl ?_)
        | fail)
      refine ⟨t + 1, hlt, by omega, ?_⟩
      rw [hnx.out]
      refine wk_i ?_ ?_ <;> simp only [hset, zw, Nat.reduceEqDiff, Nat.reduceBEq, Nat.reduceLT, Nat.reduceLeDiff, reduceIte, reduceCtorEq]
  · obtain rfl : s = o.length := by omega
    have h2 := lt_f hge
    refine ax_weak (nw := []) (n := 62) (el := [(7, .f (frI (sumsV E (wkOf g) g.length o))), (19, .f (.int .i64 o.length)), (20, .f (.int .i64 o.length))]) (hl := []) ?_ ?_
    · refine ⟨rfl, small_mk rfl, rfl, rfl, ⟨rfl, rfl, rfl, rfl, rfl⟩, ⟨by decide, ?_, by decide, .inl rfl, by decide, .inl rfl, trivial⟩, trivial⟩
      have hso : ∀ L : List Int, L.length = g.length → SlotOk (mkH [(17, 1, .cells ((L.map fI).map .f))]) (mkH []) [] (.sl 17 1 1 0 g.length) (.f (frI L)) := fun L hL => by
        rw [frI_eq]; exact so_cells1 (l := L.map fI) rfl rfl (by rw [List.length_map]; exact hL)
      have := hso _ (hSB.out o.length).1
      rw [List.take_length] at this ⊢
      exact this
    refine srun_sound 300 _ _ _ _ ?_
    repeat' (first
      | (simp -implicitDefEqProofs only [*, frI, zr, Nat.reduceAdd, Nat.reduceSub, Nat.reduceMul, Nat.reduceLT, Nat.reduceLeDiff, Nat.reduceEqDiff, Nat.reduceBEq, reduceIte, reduceCtorEq, Int.reduceLE, Int.reduceLT, Int.reduceToNat, Int.reduceEq, Int.reduceNe])
      | ((first | apply zk0 | apply zk1 | apply zk2 | apply zk3 | apply zk4 | apply zk5 | apply zk6 | apply zk7 | apply zk8 | apply zk9) <;> intro hc)
      | (refine callP0 rfl ?_)
      | (refine callD0 rfl ?_)
      | fail)
    exact ret_ve rfl
theorem tree_o (g : Graph) (hb : GBound g) (h0 : treeErr g = 0) (l : List Nat) (hl : orderOf g = some l) : FRet Tryd.prog 11 [.f (frNodes g)] [.c (.v (netOf g)), .c (.own 1 l.length (l.map fN)), .c (.v (.int .i64 0))] := by
  have hO := open_f g hb
  have h1 : opErr g = 0 := by
    unfold treeErr at h0
    split at h0
    · rename_i h; exact absurd h0 h
    · rename_i h; simpa using h
  have hR := order_o g _ _ (net_ok (gok_of h1))
  change FRet Tryd.prog 19 [.f (netOf g)] [.c (ordC (orderOf g)), .c (.v (.bool (orderOf g).isSome))] at hR
  rw [hl] at hR
  dsimp only [ordC, Option.isSome_some] at hR
  rw [h1, if_pos rfl] at hO
  refine FCall.of_ax low_graph_tree ?_
  dsimp only [l_graph_tree]
  refine srun_sound 300 _ _ _ _ ?_
  generalize netOf g = w at *
  repeat' (first
    | (simp -implicitDefEqProofs only [*, zr, Nat.reduceAdd, Nat.reduceSub, Nat.reduceMul, Nat.reduceLT, Nat.reduceLeDiff, Nat.reduceEqDiff, Nat.reduceBEq, reduceIte, reduceCtorEq, Int.reduceLE, Int.reduceLT, Int.reduceToNat, Int.reduceEq, Int.reduceNe])
    | ((first | apply zk0 | apply zk1 | apply zk2 | apply zk3 | apply zk4 | apply zk5 | apply zk6 | apply zk7 | apply zk8 | apply zk9) <;> intro hc)
    | (refine callP0 rfl ?_)
    | (refine callD0 rfl ?_)
    | (refine cP (hO) ?_)
    | (refine cD (hO) ?_)
    | (refine cF (hO) ?_)
    | (refine cO (hO) ?_)
    | (refine cP (hR) ?_)
    | (refine cD (hR) ?_)
    | (refine cF (hR) ?_)
    | (refine cO (hR) ?_)
    | fail)
  refine ⟨[_, .sl _ _ 1 0 l.length, _], rfl, ⟨rfl, .inr ⟨_, _, rfl, rfl, by rw [List.length_map, Nat.mul_one]; exact Nat.le_refl _⟩, rfl, rfl⟩, by simp [idsS]⟩
def aheadV (g : Graph) : List Int := sumsV (usersOf g) (wkOf g) g.length ((orderOf g).getD []).reverse
theorem self_of {E : List (List Nat)} {o : List Nat} {n : Nat} (hnd : o.Nodup) (hlt : ∀ i ∈ o, i < n) (hl : o.length = n) (hb : Before E o) (hE : E.length = n) (i : Nat) : i ∉ E.getD i [] := fun h => by
  rcases Nat.lt_or_ge i n with hi | hi
  · obtain ⟨k, hk⟩ := List.mem_iff_getElem?.1 (nd_all hnd hlt hl hi)
    obtain ⟨q, hq⟩ := List.mem_iff_getElem?.1 (hb k i hk i h)
    have hqk : q < k := by have := (List.getElem?_eq_some_iff.1 hq).1; rw [List.length_take] at this; omega
    rw [List.getElem?_take_of_lt hqk] at hq
    obtain ⟨a1, a2⟩ := List.getElem?_eq_some_iff.1 hq
    obtain ⟨b1, b2⟩ := List.getElem?_eq_some_iff.1 hk
    have := (List.getElem_inj (h₀ := a1) (h₁ := b1) hnd).1 (a2.trans b2.symm)
    omega
  · rw [List.getD_eq_getElem?_getD, List.getElem?_eq_none (by omega)] at h; cases h
/-- All that is known of a graph with an order. -/
structure TOk (g : Graph) (o : List Nat) : Prop where
  ok : GOk g
  net : NetOk g.length (allDeps g) (usersOf g)
  ord : orderOf g = some o
  nd : o.Nodup
  lt : ∀ i ∈ o, i < g.length
  len : o.length = g.length
  bd : Before (allDeps g) o
  bu : Before (usersOf g) o.reverse
  wk : ∀ i, 0 ≤ wkOf g i ∧ wkOf g i ≤ 1000000
theorem tok_of {g : Graph} (h : treeErr g = 0) : ∃ o, TOk g o := by
  obtain ⟨hG, o, ho⟩ := tree_okS h
  have hN := net_ok hG
  obtain ⟨h1, h2⟩ := order_inv hG ho
  obtain ⟨h3, h4⟩ := order_len hN ho
  refine ⟨o, hG, hN, ho, h1, h4, h3, h2, before_rev h1 h4 h3 h2 (rowU_lt hN) (fun u x hu hx h => net_mutual hG u x hu hx h), fun i => ?_⟩
  unfold wkOf
  cases e : g[i]? with
  | none => exact ⟨Int.le_refl _, by decide⟩
  | some x => exact (ck_work (hG.nodes x (List.mem_of_getElem? e))).2
theorem revNil_f : FRet Tryd.prog 12 [.f (frN [])] [] := by
  refine FCall.of_ax low_slices_Reverse_int_int ?_
  dsimp only [l_slices_Reverse_int_int, frN]
  refine srun_sound 300 _ _ _ _ ?_
  have hw : IntKind.i64.wrap (((0 : Nat) : Int) - 1) = -1 := by decide
  repeat' (first
    | (simp -implicitDefEqProofs only [*, zr, Nat.reduceAdd, Nat.reduceSub, Nat.reduceMul, Nat.reduceLT, Nat.reduceLeDiff, Nat.reduceEqDiff, Nat.reduceBEq, reduceIte, reduceCtorEq, Int.reduceLE, Int.reduceLT, Int.reduceToNat, Int.reduceEq, Int.reduceNe])
    | ((first | apply zk0 | apply zk1 | apply zk2 | apply zk3 | apply zk4 | apply zk5 | apply zk6 | apply zk7 | apply zk8 | apply zk9) <;> intro hc)
    | (refine callP0 rfl ?_)
    | (refine callD0 rfl ?_)
    | fail)
  refine ax_loopU (S := Nat) 28 [0] [] (fun s => [(2, .f (.int .i64 0)), (3, .f (.int .i64 (-1)))]) (fun s => []) (fun s => True) (fun s => 0) (0) [] ?_ ?_ fun s hs => ?_
  · exact trivial
  · refine wk_i ?_ ?_ <;> simp only [zw, Nat.reduceEqDiff, Nat.reduceBEq, Nat.reduceLT, Nat.reduceLeDiff, reduceIte, reduceCtorEq]
  refine srun_sound 300 _ _ _ _ ?_
  repeat' (first
    | (simp -implicitDefEqProofs only [*, zr, Nat.reduceAdd, Nat.reduceSub, Nat.reduceMul, Nat.reduceLT, Nat.reduceLeDiff, Nat.reduceEqDiff, Nat.reduceBEq, reduceIte, reduceCtorEq, Int.reduceLE, Int.reduceLT, Int.reduceToNat, Int.reduceEq, Int.reduceNe])
    | ((first | apply zk0 | apply zk1 | apply zk2 | apply zk3 | apply zk4 | apply zk5 | apply zk6 | apply zk7 | apply zk8 | apply zk9) <;> intro hc)
    | (refine callP0 rfl ?_)
    | (refine callD0 rfl ?_)
    | fail)
  exact ⟨[], rfl, rfl, by simp [idsS]⟩
theorem Ahead_f (g : Graph) (hb : GBound g) : FRet Tryd.prog 6 [.f (frNodes g)] [.c (.v (if treeErr g = 0 then frI (aheadV g) else .nil)), .c (.v (.int .i64 (treeErr g)))] := by
  refine FCall.of_ax low_graph_Ahead ?_
  dsimp only [l_graph_Ahead]
  refine srun_sound 300 _ _ _ _ ?_
  by_cases h0 : treeErr g = 0
  · obtain ⟨o, hK⟩ := tok_of h0
    have hA : aheadV g = sumsV (usersOf g) (wkOf g) g.length o.reverse := by unfold aheadV; rw [hK.ord]; rfl
    have hol := hK.len
    have hgl := hK.ok.len
    have hS := sums_f g (allDeps g) (usersOf g) (usersOf g) o.reverse hgl hK.net.ul hK.net.ur (self_of (o := o.reverse) (n := g.length) (List.pairwise_reverse.2 (hK.nd.imp Ne.symm)) (fun i hi => hK.lt i (List.mem_reverse.1 hi)) (by rw [List.length_reverse]; exact hol) hK.bu hK.net.ul) (fun i hi => hK.lt i (List.mem_reverse.1 hi)) (by rw [List.length_reverse]; omega) hK.wk
    rw [← hA] at hS
    rw [h0, if_pos rfl]
    clear hA
    generalize aheadV g = A at *
    rcases Nat.eq_zero_or_pos o.length with hz | hp
    · have hT := tree_f g hb
      obtain rfl : o = [] := List.eq_nil_of_length_eq_zero hz
      rw [h0, if_pos rfl, if_pos rfl, hK.ord] at hT
      replace hK := hide hK
      change FRet Tryd.prog 13 [.f (netOf g), .f (frN []), _] _ at hS
      dsimp only [ordR] at hT
      unfold netOf fNet at *
      repeat' (first
        | (simp -implicitDefEqProofs only [*, zr, Nat.reduceAdd, Nat.reduceSub, Nat.reduceMul, Nat.reduceLT, Nat.reduceLeDiff, Nat.reduceEqDiff, Nat.reduceBEq, reduceIte, reduceCtorEq, Int.reduceLE, Int.reduceLT, Int.reduceToNat, Int.reduceEq, Int.reduceNe])
        | ((first | apply zk0 | apply zk1 | apply zk2 | apply zk3 | apply zk4 | apply zk5 | apply zk6 | apply zk7 | apply zk8 | apply zk9) <;> intro hc)
        | (refine callP0 rfl ?_)
        | (refine callD0 rfl ?_)
        | (refine cP (hT) ?_)
        | (refine cD (hT) ?_)
        | (refine cF (hT) ?_)
        | (refine cO (hT) ?_)
        | (refine cP (revNil_f) ?_)
        | (refine cD (revNil_f) ?_)
        | (refine cF (revNil_f) ?_)
        | (refine cO (revNil_f) ?_)
        | (refine cP (hS) ?_)
        | (refine cD (hS) ?_)
        | (refine cF (hS) ?_)
        | (refine cO (hS) ?_)
        | fail)
      exact ret_vve rfl rfl
    · have hT := tree_o g hb h0 o hK.ord
      have hR := reverse_f o (by omega) hp
      replace hol := hide hol
      replace hK := hide hK
      change FRet Tryd.prog 11 _ [.c (.v (fNet g (allDeps g) (usersOf g))), _, _] at hT
      repeat' (first
        | (simp -implicitDefEqProofs only [*, zr, Nat.reduceAdd, Nat.reduceSub, Nat.reduceMul, Nat.reduceLT, Nat.reduceLeDiff, Nat.reduceEqDiff, Nat.reduceBEq, reduceIte, reduceCtorEq, Int.reduceLE, Int.reduceLT, Int.reduceToNat, Int.reduceEq, Int.reduceNe])
        | ((first | apply zk0 | apply zk1 | apply zk2 | apply zk3 | apply zk4 | apply zk5 | apply zk6 | apply zk7 | apply zk8 | apply zk9) <;> intro hc)
        | (refine callP0 rfl ?_)
        | (refine callD0 rfl ?_)
        | (refine cP (hT) ?_)
        | (refine cD (hT) ?_)
        | (refine cF (hT) ?_)
        | (refine cO (hT) ?_)
        | fail)
      refine callIm hp rfl hR rfl 9 1 ((o.map fN).map .f) [] [] rfl rfl (rcsOk_v _) rfl (by rw [idsC_f]; exact List.nodup_nil) (by rw [idsC_f]; simp [idsS]) (LeL.refl _) rfl (by exact free_upd rfl free_0) ?_
      rw [putCs_v, putHcs_v, idsC_f]
      repeat' (first
        | (simp -implicitDefEqProofs only [*, fNet, zr, Nat.reduceAdd, Nat.reduceSub, Nat.reduceMul, Nat.reduceLT, Nat.reduceLeDiff, Nat.reduceEqDiff, Nat.reduceBEq, reduceIte, reduceCtorEq, Int.reduceLE, Int.reduceLT, Int.reduceToNat, Int.reduceEq, Int.reduceNe])
        | ((first | apply zk0 | apply zk1 | apply zk2 | apply zk3 | apply zk4 | apply zk5 | apply zk6 | apply zk7 | apply zk8 | apply zk9) <;> intro hc)
        | (refine callP0 rfl ?_)
        | (refine callD0 rfl ?_)
        | fail)
      refine ax_weakA [] (nw := []) (n := 25) (el := [(18, .f (fNet g (allDeps g) (usersOf g))), (19, .f (frN o.reverse)), (23, .f (frRows (usersOf g)))]) (hl := []) rfl ?_ ?_
      · refine ⟨rfl, (by repeat (first | exact small_0 | refine small_upd rfl ?_)), rfl, rfl, ⟨rfl, rfl, rfl, rfl, rfl⟩, ⟨by decide, .inl rfl, by decide, ?_, by decide, .inl rfl, trivial⟩, trivial⟩
        have hso : ∀ (H : Heap) (L : List Nat) (n : Nat), L.length = n → SlotOk (upd H 9 (1, some (.cells ((L.map fN).map .f)))) (mkH []) [] (.sl 9 1 1 0 n) (.f (frN L)) := fun H L n hL => by
          rw [frN_eq]; exact so_cells1 (l := L.map fN) (by rw [upd_same]) rfl (by rw [List.length_map]; exact hL)
        exact hso _ _ _ (List.length_reverse ..)
      repeat' (first
        | (simp -implicitDefEqProofs only [*, zr, Nat.reduceAdd, Nat.reduceSub, Nat.reduceMul, Nat.reduceLT, Nat.reduceLeDiff, Nat.reduceEqDiff, Nat.reduceBEq, reduceIte, reduceCtorEq, Int.reduceLE, Int.reduceLT, Int.reduceToNat, Int.reduceEq, Int.reduceNe])
        | ((first | apply zk0 | apply zk1 | apply zk2 | apply zk3 | apply zk4 | apply zk5 | apply zk6 | apply zk7 | apply zk8 | apply zk9) <;> intro hc)
        | (refine callP0 rfl ?_)
        | (refine callD0 rfl ?_)
        | (refine cP (hS) ?_)
        | (refine cD (hS) ?_)
        | (refine cF (hS) ?_)
        | (refine cO (hS) ?_)
        | fail)
      exact ret_vve rfl rfl
  · have hT := tree_f g hb
    rw [if_neg h0, if_neg h0] at hT
    rw [if_neg h0]
    have hd := dec_f h0
    generalize treeErr g = e at *
    repeat' (first
      | (simp -implicitDefEqProofs only [*, zr, Nat.reduceAdd, Nat.reduceSub, Nat.reduceMul, Nat.reduceLT, Nat.reduceLeDiff, Nat.reduceEqDiff, Nat.reduceBEq, reduceIte, reduceCtorEq, Int.reduceLE, Int.reduceLT, Int.reduceToNat, Int.reduceEq, Int.reduceNe])
      | ((first | apply zk0 | apply zk1 | apply zk2 | apply zk3 | apply zk4 | apply zk5 | apply zk6 | apply zk7 | apply zk8 | apply zk9) <;> intro hc)
      | (refine callP0 rfl ?_)
      | (refine callD0 rfl ?_)
      | (refine cP (hT) ?_)
      | (refine cD (hT) ?_)
      | (refine cF (hT) ?_)
      | (refine cO (hT) ?_)
      | fail)
    exact ret_vve rfl rfl
/-! ### The longest way -/
end Go.Proofs.YtbnmclcoekehbaaDoor
