/-
  Spans: the plain law of Ranges, put together. No statement of the seat is proved here; no conditions.
-/
import Derived.Test.YteoojplgchlhcaaSortSp
import Derived.Test.YteoojplgchlhcaaRangeR
namespace Go.Proofs.Yteoojplgchlhcaa
open Go.RowKit
set_option linter.unusedVariables false
set_option linter.unusedSimpArgs false

/-! ### The plain law -/
theorem byFrom_tail {x : Span} {r : List Span} (h : ByFrom (x :: r)) : ByFrom r := fun i j a b hij ha hb => h (i + 1) (j + 1) a b (by omega) (by simpa using ha) (by simpa using hb)
theorem byFrom_head {x : Span} {r : List Span} (h : ByFrom (x :: r)) : ∀ y ∈ r, x.1 ≤ y.1 := fun y hy => by
  obtain ⟨k, hk, rfl⟩ := List.mem_iff_getElem.1 hy
  exact h 0 (k + 1) x _ (by omega) rfl (by simp [hk])
theorem ordered_of (m : Int) : ∀ (l : List Span) (a : Int), ByFrom l → (∀ x ∈ l, a ≤ x.1 ∧ x.1 ≤ x.2 ∧ x.2 ≤ m) → a ≤ m → Ordered a (l ++ [(m, m)]) := by
  intro l
  induction l with
  | nil => intro a _ _ h; exact ⟨h, Int.le_refl _, trivial⟩
  | cons x r ih =>
    intro a hf h ha
    obtain ⟨h1, h2, h3⟩ := h x (by simp)
    refine ⟨h1, h2, ih x.1 (byFrom_tail hf) (fun y hy => ?_) (by omega)⟩
    obtain ⟨_, g2, g3⟩ := h y (by simp [hy])
    exact ⟨byFrom_head hf y hy, g2, g3⟩
theorem spanOk_iff {m : Int} {x : Span} : spanOk m x = true ↔ (0 ≤ x.1 ∧ x.1 ≤ m) ∧ x.1 ≤ x.2 ∧ x.2 ≤ m := by simp [spanOk, inR]
theorem had_false {l : List Span} {i : Nat} : had l i = false ↔ ¬ inS l i := by
  unfold had inS
  rw [List.any_eq_false]
  simp
theorem prog_ranges (m : Nat) (l l' : List Span) (hp : l'.Perm l) (hf : ByFrom l') (hv : l.all (spanOk m) = true) : joined (rangesGo m (l' ++ [((m : Int), (m : Int))]) 0 []) = runs (had l) m := by
  have hall : ∀ x ∈ l', (0 ≤ x.1 ∧ x.1 ≤ m) ∧ x.1 ≤ x.2 ∧ x.2 ≤ m := fun x hx => spanOk_iff.1 (List.all_eq_true.1 hv x (hp.mem_iff.1 hx))
  obtain ⟨r1, r2⟩ := rangesGo_inv m (by omega) l' [] 0 0 [] RInv.start (ordered_of m l' 0 hf (fun x hx => by have := hall x hx; omega) (by omega)) (fun x hx => (hall x hx).2.2)
  obtain ⟨j1, j2⟩ := joined_go _ [] 0 r1 trivial (by simp)
  obtain ⟨s1, _, s3⟩ := runs_spec (had l) m
  refine norm_uniq j1 s1 fun i => ?_
  have hin : inS l' i ↔ inS l i := by
    constructor
    · rintro ⟨s, hs, h⟩; exact ⟨s, hp.mem_iff.1 hs, h⟩
    · rintro ⟨s, hs, h⟩; exact ⟨s, hp.mem_iff.2 hs, h⟩
  show inS (List.foldl joinStep [] _) i ↔ _
  rw [j2 i, s3 i, r2 i, List.nil_append, hin]
  constructor
  · rintro (h | ⟨h1, h2, h3⟩)
    · obtain ⟨_, hs, _⟩ := h; cases hs
    · obtain ⟨k, rfl⟩ := Int.eq_ofNat_of_zero_le h1
      exact ⟨k, rfl, by omega, had_false.2 h3⟩
  · rintro ⟨k, rfl, h2, h3⟩
    exact .inr ⟨by omega, by omega, had_false.1 h3⟩

theorem rgo_in {size F T at_ : Int} {r out : List Span} (h : T > F) : rangesGo size ((F, T) :: r) at_ out = rangesGo size r (max at_ T) (if F > at_ then out ++ [(at_, F)] else out) := by
  rw [rangesGo]; exact if_pos h
theorem rgo_stop {size F T at_ : Int} {r out : List Span} (h : ¬ T > F) (h2 : F = size) : rangesGo size ((F, T) :: r) at_ out = if F > at_ then out ++ [(at_, F)] else out := by
  rw [rangesGo]; exact (if_neg h).trans (if_pos h2)
theorem rgo_skip {size F T at_ : Int} {r out : List Span} (h : ¬ T > F) (h2 : ¬ F = size) : rangesGo size ((F, T) :: r) at_ out = rangesGo size r at_ (if F > at_ then out ++ [(at_, F)] else out) := by
  rw [rangesGo]; exact (if_neg h).trans (if_neg h2)
end Go.Proofs.Yteoojplgchlhcaa
