/-
  The plain law of loops. No statement of the seat is proved here; no conditions.
-/
import Derived.Test.YtaiajaibcpkceaaDoorGrW
namespace Go.Proofs.YtaiajaibcpkceaaDoor
set_option linter.unusedVariables false
set_option linter.unusedSimpArgs false

/-- Along a way each needs the next, and it falls by one. -/
theorem way_falls {n : Nat} {D U : List (List Nat)} {F : List Int} {b : Nat} (hN : NetOk n D U) (hm : Mutual n D U) (hs : StepsSpec U [b] n F) : ∀ (m a : Nat), a < n → F.getD a 0 = (m : Int) → ∀ j, j ≤ m → ∃ u, (a :: wayGo D F m a)[j]? = some u ∧ u < n ∧ F.getD u 0 = ((m - j : Nat) : Int) ∧ (j < m → ∃ v, (a :: wayGo D F m a)[j + 1]? = some v ∧ v ∈ D.getD u [])
  | 0, a, ha, hF, j, hj => by
    obtain rfl : j = 0 := by omega
    exact ⟨a, rfl, ha, by simpa using hF, fun h => absurd h (Nat.lt_irrefl _)⟩
  | m + 1, a, ha, hF, j, hj => by
    have hab : a ≠ b := fun e => by
      have := hs.src b (List.mem_singleton.2 rfl)
      rw [← e, hF] at this; omega
    obtain ⟨h1, h2⟩ := next_mem (next_is hm hs ha (by omega) hab)
    have hk := rowD_lt hN a _ h1
    have hFk : F.getD (nextV F (D.getD a []) a) 0 = (m : Int) := by
      unfold isNext at h2
      rw [Bool.and_eq_true, decide_eq_true_eq, decide_eq_true_eq] at h2
      omega
    cases j with
    | zero => exact ⟨a, rfl, ha, by simpa using hF, fun _ => ⟨_, rfl, h1⟩⟩
    | succ j =>
      obtain ⟨u, g1, g2, g3, g4⟩ := way_falls hN hm hs m _ hk hFk j (by omega)
      refine ⟨u, by rw [wayGo]; simpa using g1, g2, by rw [g3]; congr 1; omega, fun h => ?_⟩
      obtain ⟨v, g5, g6⟩ := g4 (by omega)
      exact ⟨v, by rw [wayGo]; simpa using g5, g6⟩
/-- The best one is one of the row. -/
theorem best_mem {F : List Int} : ∀ {l : List Nat} {b : Option Nat} {c : Nat}, l.foldl (bStep F) b = some c → c ∈ l ∨ b = some c
  | [], b, c, h => .inr h
  | k :: l, b, c, h => by
    rw [List.foldl_cons] at h
    rcases best_mem h with h1 | h1
    · exact .inl (List.mem_cons_of_mem _ h1)
    · unfold bStep at h1
      split at h1
      · split at h1
        · obtain rfl := Option.some.inj h1; exact .inl (List.mem_cons_self ..)
        · cases h1
      · split at h1
        · obtain rfl := Option.some.inj h1; exact .inl (List.mem_cons_self ..)
        · exact .inr h1
/-- A loop that is told: i, then a way from one that i needs to i, without its end. -/
theorem loop_parts {n : Nat} {D U : List (List Nat)} (hN : NetOk n D U) {l : List Nat} (h : loopV D U n = some l) : ∃ i c, i < n ∧ c < n ∧ c ∈ D.getD i [] ∧ 0 ≤ (stepsV U n [i]).getD c 0 ∧ StepsSpec U [i] n (stepsV U n [i]) ∧ l = (i :: wayV D (stepsV U n [i]) c).dropLast := by
  obtain ⟨i, hi, hl⟩ := List.exists_of_findSome?_eq_some h
  rw [List.mem_range] at hi
  unfold loopAt at hl
  obtain ⟨c, hc, rfl⟩ := Option.map_eq_some_iff.1 hl
  have hc1 := best_ok (n := n) (rowD_lt hN i) (fun c h => by cases h) c hc
  have hc2 := best_mem hc
  refine ⟨i, c, hi, hc1.1, ?_, hc1.2, steps_spec (rowU_lt hN) (fun k hk => by rw [List.mem_singleton.1 hk]; exact hi), rfl⟩
  rcases hc2 with h1 | h1
  · exact h1
  · cases h1
/-- Each of a told loop needs the next one, the last one the first one; and none stands twice. -/
theorem loop_spec {n : Nat} {D U : List (List Nat)} (hN : NetOk n D U) (hm : Mutual n D U) {l : List Nat} (h : loopV D U n = some l) : ∃ m, l.length = m + 1 ∧ (∀ j : Nat, j < m + 1 → ∃ u v, l[j]? = some u ∧ l[(j + 1) % (m + 1)]? = some v ∧ v ∈ D.getD u [] ∧ u < n ∧ v < n) ∧ ∀ (j k u : Nat), j < k → l[j]? = some u → l[k]? ≠ some u := by
  obtain ⟨i, c, hi, hc, hci, h0, hs, rfl⟩ := loop_parts hN h
  generalize stepsV U n [i] = F at *
  obtain ⟨m, hmF⟩ : ∃ m : Nat, F.getD c 0 = (m : Int) := ⟨(F.getD c 0).toNat, by omega⟩
  have hw := way_falls hN hm hs m c hc hmF
  have hwe : wayV D F c = c :: wayGo D F m c := by rw [wayV, hmF]; rfl
  have hlen := (wayGo_lt (F := F) hN m c hc).1
  rw [hwe]
  generalize hW : c :: wayGo D F m c = w at *
  have hwl : w.length = m + 1 := by rw [← hW, List.length_cons, hlen]
  have hw0 : w[0]? = some c := by rw [← hW]; rfl
  have hll : (i :: w).dropLast.length = m + 1 := by rw [List.length_dropLast, List.length_cons, hwl]; omega
  have hat : ∀ j : Nat, j < m + 1 → (i :: w).dropLast[j]? = (i :: w)[j]? := fun j hj => by
    rw [List.dropLast_eq_take, List.length_cons, hwl, List.getElem?_take_of_lt (by omega)]
  -- the way ends at i
  have hend : w[m]? = some i := by
    obtain ⟨u, g1, g2, g3, _⟩ := hw m (Nat.le_refl _)
    rw [Nat.sub_self] at g3
    rcases hs.pred u g2 (by rw [g3]; exact Int.le_refl _) with ⟨h1, _⟩ | ⟨k, _, _, h2, h3⟩
    · rw [List.mem_singleton.1 h1] at g1; exact g1
    · omega
  have hF0 : F.getD i 0 = 0 := hs.src i (List.mem_singleton.2 rfl)
  have hval : ∀ (j u : Nat), j < m + 1 → (i :: w)[j]? = some u → u < n ∧ F.getD u 0 = if j = 0 then 0 else ((m + 1 - j : Nat) : Int) := fun j u hj hu => by
    cases j with
    | zero => obtain rfl := Option.some.inj hu; exact ⟨hi, by rw [hF0]; rfl⟩
    | succ j =>
      obtain ⟨u', g1, g2, g3, _⟩ := hw j (by omega)
      rw [List.getElem?_cons_succ] at hu
      rw [g1] at hu; obtain rfl := Option.some.inj hu
      exact ⟨g2, by rw [g3, if_neg (by omega)]; congr 1; omega⟩
  refine ⟨m, hll, fun j hj => ?_, fun j k u hjk hu hk => ?_⟩
  · have hnext : ∃ u v, (i :: w)[j]? = some u ∧ (i :: w)[j + 1]? = some v ∧ v ∈ D.getD u [] := by
      cases j with
      | zero => exact ⟨i, c, rfl, hw0, hci⟩
      | succ j =>
        obtain ⟨u, g1, g2, g3, g4⟩ := hw j (by omega)
        obtain ⟨v, g5, g6⟩ := g4 (by omega)
        exact ⟨u, v, g1, g5, g6⟩
    obtain ⟨u, v, h1, h2, h3⟩ := hnext
    refine ⟨u, v, by rw [hat j hj]; exact h1, ?_, h3, (hval j u hj h1).1, rowD_lt hN u v h3⟩
    rcases Nat.lt_or_ge (j + 1) (m + 1) with h4 | h4
    · rw [Nat.mod_eq_of_lt h4, hat _ h4]; exact h2
    · obtain rfl : j = m := by omega
      rw [Nat.mod_self, hat 0 (by omega)]
      rw [List.getElem?_cons_succ, hend] at h2
      exact h2
  · have hkl : k < m + 1 := by have := (List.getElem?_eq_some_iff.1 hk).1; omega
    rw [hat j (by omega)] at hu
    rw [hat k hkl] at hk
    have h1 := (hval j u (by omega) hu).2
    have h2 := (hval k u hkl hk).2
    rw [h1] at h2
    rw [if_neg (show ¬ k = 0 by omega)] at h2
    split at h2 <;> omega
end Go.Proofs.YtaiajaibcpkceaaDoor
