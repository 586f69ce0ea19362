/-
  The plain law of sums of work. No statement of the seat is proved here; no conditions.
-/
import Derived.Test.YtaiajaibcpkceaaDoorGrZ
namespace Go.Proofs.YtaiajaibcpkceaaDoor
set_option linter.unusedVariables false
set_option linter.unusedSimpArgs false

/-- The greatest one of a row, or less than nothing. -/
def maxAt (S : List Int) (a : Int) (row : List Nat) : Int := row.foldl (fun m k => max m (S.getD k 0)) a
theorem maxAt_ge {S : List Int} : ∀ {row : List Nat} {a : Int}, a ≤ maxAt S a row ∧ ∀ k ∈ row, S.getD k 0 ≤ maxAt S a row
  | [], a => ⟨Int.le_refl _, fun k hk => by cases hk⟩
  | k :: row, a => by
    obtain ⟨h1, h2⟩ := maxAt_ge (S := S) (row := row) (a := max a (S.getD k 0))
    refine ⟨Int.le_trans (Int.le_max_left _ _) h1, fun j hj => ?_⟩
    rcases List.mem_cons.1 hj with rfl | hj
    · exact Int.le_trans (Int.le_max_right _ _) h1
    · exact h2 j hj
theorem maxAt_is {S : List Int} : ∀ {row : List Nat} {a : Int}, maxAt S a row = a ∨ ∃ k ∈ row, maxAt S a row = S.getD k 0
  | [], a => .inl rfl
  | k :: row, a => by
    rcases maxAt_is (S := S) (row := row) (a := max a (S.getD k 0)) with h | ⟨j, h1, h2⟩
    · rcases Int.le_total a (S.getD k 0) with h3 | h3
      · exact .inr ⟨k, List.mem_cons_self .., h.trans (Int.max_eq_right h3)⟩
      · exact .inl (h.trans (Int.max_eq_left h3))
    · exact .inr ⟨j, List.mem_cons_of_mem _ h1, h2⟩
theorem maxAt_congr {S T : List Int} {row : List Nat} (h : ∀ k ∈ row, S.getD k 0 = T.getD k 0) : ∀ {a : Int}, maxAt S a row = maxAt T a row := by
  induction row with
  | nil => intro a; rfl
  | cons k row ih =>
    intro a
    unfold maxAt at ih ⊢
    rw [List.foldl_cons, List.foldl_cons, h k (List.mem_cons_self ..)]
    exact ih fun j hj => h j (List.mem_cons_of_mem _ hj)
/-- One node's sum. -/
def sumStep (E : List (List Nat)) (wk : Nat → Int) (S : List Int) (i : Nat) : List Int := S.set i (maxAt S (S.getD i 0) (E.getD i []) + wk i)
/-- For each node, in an order, its work and the greatest sum of those that edges lead to. -/
def sumsV (E : List (List Nat)) (wk : Nat → Int) (n : Nat) (o : List Nat) : List Int := o.foldl (sumStep E wk) (List.replicate n 0)
theorem sumStep_len {E : List (List Nat)} {wk : Nat → Int} {S : List Int} {i : Nat} : (sumStep E wk S i).length = S.length := by simp [sumStep]
theorem sums_len {E : List (List Nat)} {wk : Nat → Int} : ∀ {o : List Nat} {S : List Int}, (o.foldl (sumStep E wk) S).length = S.length
  | [], S => rfl
  | i :: o, S => by rw [List.foldl_cons, sums_len, sumStep_len]
theorem getD_set' {S : List Int} {i k : Nat} {x : Int} (hi : i < S.length) : (S.set i x).getD k 0 = if i = k then x else S.getD k 0 := getD_set hi
/-- The order stands: each one's edges lead to what came before. -/
def Before (E : List (List Nat)) (o : List Nat) : Prop := ∀ (k i : Nat), o[k]? = some i → ∀ d ∈ E.getD i [], d ∈ o.take k
theorem sums_prefix {E : List (List Nat)} {wk : Nat → Int} {n : Nat} {o : List Nat} (hnd : o.Nodup) (hlt : ∀ i ∈ o, i < n) (hb : Before E o) : ∀ m : Nat, m ≤ o.length →
    (∀ i, i ∈ o.take m → ((o.take m).foldl (sumStep E wk) (List.replicate n 0)).getD i 0 = maxAt ((o.take m).foldl (sumStep E wk) (List.replicate n 0)) 0 (E.getD i []) + wk i) ∧ ∀ i, i ∉ o.take m → ((o.take m).foldl (sumStep E wk) (List.replicate n 0)).getD i 0 = 0
  | 0, _ => by
    refine ⟨fun i hi => by simp at hi, fun i _ => ?_⟩
    rw [List.take_zero, List.foldl_nil, List.getD_eq_getElem?_getD, List.getElem?_replicate]
    split <;> rfl
  | m + 1, hm => by
    obtain ⟨h1, h2⟩ := sums_prefix (wk := wk) (n := n) hnd hlt hb m (by omega)
    have hlen : ((o.take m).foldl (sumStep E wk) (List.replicate n 0)).length = n := by rw [sums_len, List.length_replicate]
    obtain ⟨x, hx⟩ : ∃ x, o[m]? = some x := ⟨_, List.getElem?_eq_getElem (by omega)⟩
    have hxn := hlt x (List.mem_of_getElem? hx)
    have ht : o.take (m + 1) = o.take m ++ [x] := by rw [List.take_add_one, hx]; rfl
    have hxnot : x ∉ o.take m := fun h => by
      obtain ⟨j, hj⟩ := List.mem_iff_getElem?.1 h
      have hjm : j < m := by have := (List.getElem?_eq_some_iff.1 hj).1; rw [List.length_take] at this; omega
      rw [List.getElem?_take_of_lt hjm] at hj
      obtain ⟨a1, a2⟩ := List.getElem?_eq_some_iff.1 hj
      obtain ⟨b1, b2⟩ := List.getElem?_eq_some_iff.1 hx
      have := (List.getElem_inj (h₀ := a1) (h₁ := b1) hnd).1 (a2.trans b2.symm)
      omega
    rw [ht, List.foldl_append, List.foldl_cons, List.foldl_nil]
    generalize (o.take m).foldl (sumStep E wk) (List.replicate n 0) = S at *
    have hS : ∀ k, (sumStep E wk S x).getD k 0 = if x = k then maxAt S 0 (E.getD x []) + wk x else S.getD k 0 := fun k => by
      rw [sumStep, getD_set' (by omega), h2 x hxnot]
    have hrow : ∀ i, i ∈ o.take m ∨ i = x → ∀ k ∈ E.getD i [], k ≠ x := fun i hi k hk e => by
      subst e
      rcases hi with hi | rfl
      · obtain ⟨j, hj⟩ := List.mem_iff_getElem?.1 hi
        have hjm : j < m := by have := (List.getElem?_eq_some_iff.1 hj).1; rw [List.length_take] at this; omega
        rw [List.getElem?_take_of_lt hjm] at hj
        have := hb j i hj k hk
        exact hxnot (List.mem_of_mem_take (by rw [List.take_take, Nat.min_eq_left (by omega)] ; exact this : k ∈ (o.take m).take j))
      · exact hxnot (hb m i hx i hk)
    have hcong : ∀ i, i ∈ o.take m ∨ i = x → maxAt (sumStep E wk S x) 0 (E.getD i []) = maxAt S 0 (E.getD i []) := fun i hi => maxAt_congr fun k hk => by rw [hS, if_neg (hrow i hi k hk).symm]
    refine ⟨fun i hi => ?_, fun i hi => ?_⟩
    · rcases List.mem_append.1 hi with hi | hi
      · rw [hS, if_neg (fun e : x = i => hxnot (by rw [e]; exact hi)), hcong i (.inl hi)]; exact h1 i hi
      · rw [List.mem_singleton.1 hi, hS, if_pos rfl, hcong x (.inr rfl)]
    · rw [hS, if_neg (fun e => hi (by rw [← e]; simp))]
      exact h2 i fun h => hi (List.mem_append_left _ h)
/-- The sums, when the order holds all. -/
theorem sums_spec {E : List (List Nat)} {wk : Nat → Int} {n : Nat} {o : List Nat} (hnd : o.Nodup) (hlt : ∀ i ∈ o, i < n) (hb : Before E o) (hl : o.length = n) {i : Nat} (hi : i < n) : (sumsV E wk n o).getD i 0 = maxAt (sumsV E wk n o) 0 (E.getD i []) + wk i := by
  have h := (sums_prefix (wk := wk) (n := n) hnd hlt hb o.length (Nat.le_refl _)).1 i
  rw [List.take_length] at h
  exact h (nd_all hnd hlt hl hi)
/-- An order turned round is one of the edges turned round. -/
theorem before_rev {D U : List (List Nat)} {n : Nat} {o : List Nat} (hnd : o.Nodup) (hlt : ∀ i ∈ o, i < n) (hl : o.length = n) (hb : Before D o) (hU : ∀ i, ∀ k ∈ U.getD i [], k < n) (hm : ∀ u x, u < n → x < n → x ∈ U.getD u [] → u ∈ D.getD x []) : Before U o.reverse := fun k i hk d hd => by
  have hkl : k < o.length := by have := (List.getElem?_eq_some_iff.1 hk).1; rwa [List.length_reverse] at this
  have hik := hk
  rw [List.getElem?_reverse hkl] at hk
  have hi := hlt i (List.mem_of_getElem? hk)
  have hdn := hU i d hd
  have hid := hm i d hi hdn hd
  obtain ⟨p, hp⟩ := List.mem_iff_getElem?.1 (nd_all hnd hlt hl hdn)
  have h1 := hb p d hp i hid
  obtain ⟨q, hq⟩ := List.mem_iff_getElem?.1 h1
  have hpl := (List.getElem?_eq_some_iff.1 hp).1
  have hqp : q < p := by have := (List.getElem?_eq_some_iff.1 hq).1; rw [List.length_take] at this; omega
  rw [List.getElem?_take_of_lt hqp] at hq
  obtain ⟨a1, a2⟩ := List.getElem?_eq_some_iff.1 hq
  obtain ⟨b1, b2⟩ := List.getElem?_eq_some_iff.1 hk
  have hqe := (List.getElem_inj (h₀ := a1) (h₁ := b1) hnd).1 (a2.trans b2.symm)
  refine List.mem_iff_getElem?.2 ⟨o.length - 1 - p, ?_⟩
  rw [List.getElem?_take_of_lt (by omega), List.getElem?_reverse (by omega), show o.length - 1 - (o.length - 1 - p) = p by omega, hp]
theorem ck_work {n : Node} (h : ckNode n = 0) : n.2.2.2.1.length ≤ 1000 ∧ 0 ≤ n.2.2.2.2.2 ∧ n.2.2.2.2.2 ≤ 1000000 := by
  unfold ckNode at h
  split at h
  · cases h
  · split at h
    · cases h
    · split at h
      · cases h
      · split at h
        · rename_i h1; exact absurd h h1
        · split at h
          · cases h
          · rename_i h1
            refine ⟨by omega, ?_⟩
            split at h
            · rename_i h2; exact absurd h h2
            · split at h
              · cases h
              · split at h
                · rename_i h2; exact absurd h h2
                · split at h
                  · cases h
                  · rename_i h3
                    simp only [Bool.or_eq_true, decide_eq_true_eq] at h3
                    omega
theorem tree_okS {g : Graph} (h0 : treeErr g = 0) : GOk g ∧ ∃ l, orderOf g = some l := by
  have h1 : opErr g = 0 := by
    unfold treeErr at h0
    split at h0
    · rename_i h; exact absurd h0 h
    · rename_i h; simpa using h
  refine ⟨gok_of h1, ?_⟩
  unfold treeErr at h0
  rw [h1, if_neg (show ¬ ((0 : Int) ≠ 0) from fun h => h rfl)] at h0
  split at h0
  · rename_i h; exact Option.isSome_iff_exists.1 h
  · cases h0
end Go.Proofs.YtaiajaibcpkceaaDoor
