/-
  What is swept, plainly. No statement of the seat is proved here; no conditions.
-/
import Derived.Test.YteeemcghdhdodaaDoorCaW
namespace Go.Proofs.YteeemcghdhdodaaDoor
open Go.RowKit Go.Shelf
set_option linter.unusedVariables false
set_option linter.unusedSimpArgs false

theorem hasB_iff {bl : List Blob} {d : ByteArray} : hasB bl d = true ↔ ∃ b ∈ bl, b.1 = d := by
  unfold hasB hasK
  rw [List.any_eq_true]
  simp only [decide_eq_true_eq]
theorem missing_zero {bl : List Blob} {l : List ByteArray} : (missingOf bl l).length = 0 ↔ ∀ d ∈ l, hasB bl d = true := by
  rw [List.length_eq_zero_iff, missingOf, List.filter_eq_nil_iff]
  simp
theorem mem_keep {α : Type} {p : α → Bool} {l : List α} {x : α} : x ∈ keepL p l ↔ x ∈ l ∧ p x = false := by
  rw [keepL, List.mem_filter]; simp
theorem mem_also {bl : List Blob} {roots : List ByteArray} {en : List Entry} {d : ByteArray} : d ∈ alsoOf bl roots en ↔ ∃ e ∈ en, e.1 ∈ roots ∧ (∀ r ∈ e.2.1, hasB bl r = true) ∧ d ∈ e.2.1 := by
  rw [alsoOf, List.mem_flatMap]
  constructor
  · rintro ⟨e, h1, h2⟩
    rw [List.mem_filter, Bool.and_eq_true, decide_eq_true_eq, hasS_iff, missing_zero] at h1
    exact ⟨e, h1.1, h1.2.1, h1.2.2, h2⟩
  · rintro ⟨e, h1, h2, h3, h4⟩
    refine ⟨e, ?_, h4⟩
    rw [List.mem_filter, Bool.and_eq_true, decide_eq_true_eq, hasS_iff, missing_zero]
    exact ⟨h1, h2, h3⟩
/-- Blobs that stay are held or wanted; those that go are not. -/
theorem gone_iff {c : Cache} {roots : List ByteArray} {at_ : Int} {b : Blob} : b ∈ goneB c roots at_ ↔ b ∈ c.2.2.1 ∧ heldB b at_ = false ∧ b.1 ∉ wantOf c roots := by
  rw [goneB, mem_keep, Bool.or_eq_false_iff, ← hasS_iff, Bool.not_eq_true]
theorem keep_iff {c : Cache} {roots : List ByteArray} {at_ : Int} {b : Blob} (hu : ∀ x ∈ c.2.2.1, ∀ y ∈ c.2.2.1, x.1 = y.1 → x = y) : b ∈ (swept c roots at_).2.2.1 ↔ b ∈ c.2.2.1 ∧ (heldB b at_ = true ∨ b.1 ∈ wantOf c roots) := by
  show b ∈ keepL _ _ ↔ _
  rw [mem_keep]
  refine and_congr_right fun hb => ?_
  rw [← Bool.not_eq_true, hasS_iff, goneOf, List.mem_map]
  constructor
  · intro h
    cases hh : heldB b at_
    · refine .inr (Classical.byContradiction fun hw => h ⟨b, gone_iff.2 ⟨hb, hh, hw⟩, rfl⟩)
    · exact .inl rfl
  · rintro h ⟨x, hx, he⟩
    obtain ⟨h1, h2, h3⟩ := gone_iff.1 hx
    obtain rfl := hu x h1 b hb he
    rcases h with h | h
    · rw [h2] at h; cases h
    · exact h3 h
theorem want_again {c : Cache} {roots : List ByteArray} {at_ : Int} (hu : ∀ x ∈ c.2.2.1, ∀ y ∈ c.2.2.1, x.1 = y.1 → x = y) {d : ByteArray} (h : d ∈ wantOf c roots) : d ∈ wantOf (swept c roots at_) roots := by
  rw [wantOf, List.mem_append] at h ⊢
  refine h.imp_right fun h => ?_
  have h' := mem_also.1 h
  obtain ⟨e, h1, h2, h3, h4⟩ := h'
  refine mem_also.2 ⟨e, ?_, h2, fun r hr => ?_, h4⟩
  · show e ∈ keepL _ _
    rw [mem_keep]
    exact ⟨h1, by rw [hasS_iff.2 h2]; rfl⟩
  · obtain ⟨b, hb, hbe⟩ := hasB_iff.1 (h3 r hr)
    refine hasB_iff.2 ⟨b, (keep_iff hu).2 ⟨hb, .inr ?_⟩, hbe⟩
    rw [wantOf, List.mem_append]
    exact .inr (mem_also.2 ⟨e, h1, h2, h3, hbe ▸ hr⟩)
theorem gone_again {c : Cache} {roots : List ByteArray} {at_ : Int} (hu : ∀ x ∈ c.2.2.1, ∀ y ∈ c.2.2.1, x.1 = y.1 → x = y) : goneB (swept c roots at_) roots at_ = [] := by
  refine List.eq_nil_iff_forall_not_mem.2 fun b hb => ?_
  obtain ⟨h1, h2, h3⟩ := gone_iff.1 hb
  rcases ((keep_iff hu).1 h1).2 with h | h
  · rw [h2] at h; cases h
  · exact h3 (want_again hu h)
theorem swept_again {c : Cache} {roots : List ByteArray} {at_ : Int} (hu : ∀ x ∈ c.2.2.1, ∀ y ∈ c.2.2.1, x.1 = y.1 → x = y) : swept (swept c roots at_) roots at_ = swept c roots at_ ∧ goneOf (swept c roots at_) roots at_ = [] := by
  have h1 : goneOf (swept c roots at_) roots at_ = [] := by rw [goneOf, gone_again hu]; rfl
  refine ⟨?_, h1⟩
  have h2 : swept (swept c roots at_) roots at_ = ((swept c roots at_).1, (swept c roots at_).2.1, keepL (fun b : Blob => hasS b.1 (goneOf (swept c roots at_) roots at_)) (swept c roots at_).2.2.1, keepL (fun e : Entry => !hasS e.1 roots) (swept c roots at_).2.2.2) := rfl
  rw [h2, h1]
  have e1 : ∀ l : List Blob, keepL (fun b : Blob => hasS b.1 []) l = l := fun l => List.filter_eq_self.2 fun b _ => rfl
  have e2 : keepL (fun e : Entry => !hasS e.1 roots) (swept c roots at_).2.2.2 = (swept c roots at_).2.2.2 := List.filter_eq_self.2 fun e he => by
    have := (mem_keep.1 (show e ∈ keepL (fun e : Entry => !hasS e.1 roots) c.2.2.2 from he)).2
    show (!(!hasS e.1 roots)) = true
    rw [this]; rfl
  rw [e1, e2]
/-- Entries of roots are whole behind it just if they were. -/
theorem whole_again {c : Cache} {roots : List ByteArray} {at_ : Int} (hu : ∀ x ∈ c.2.2.1, ∀ y ∈ c.2.2.1, x.1 = y.1 → x = y) {e : Entry} (he : e ∈ c.2.2.2) (hr : e.1 ∈ roots) :
    (missingOf (swept c roots at_).2.2.1 e.2.1).length = 0 ↔ (missingOf c.2.2.1 e.2.1).length = 0 := by
  rw [missing_zero, missing_zero]
  constructor
  · intro h d hd
    obtain ⟨b, hb, hbe⟩ := hasB_iff.1 (h d hd)
    exact hasB_iff.2 ⟨b, ((keep_iff hu).1 hb).1, hbe⟩
  · intro h d hd
    obtain ⟨b, hb, hbe⟩ := hasB_iff.1 (h d hd)
    refine hasB_iff.2 ⟨b, (keep_iff hu).2 ⟨hb, .inr ?_⟩, hbe⟩
    rw [wantOf, List.mem_append]
    exact .inr (mem_also.2 ⟨e, he, hr, h, hbe ▸ hd⟩)
theorem keep_len {α : Type} (p q : α → Bool) : ∀ l : List α, (∀ x ∈ l, p x = !q x) → (keepL p l).length + (keepL q l).length = l.length
  | [], _ => rfl
  | x :: l, h => by
    have ih := keep_len p q l fun y hy => h y (by simp [hy])
    have hx := h x (by simp)
    simp only [keepL] at ih ⊢
    cases hq : q x <;> rw [hq] at hx <;> simp [List.filter_cons, hx, hq] <;> omega
theorem gone_len {c : Cache} {roots : List ByteArray} {at_ : Int} (hu : ∀ x ∈ c.2.2.1, ∀ y ∈ c.2.2.1, x.1 = y.1 → x = y) : (swept c roots at_).2.2.1.length + (goneOf c roots at_).length = c.2.2.1.length := by
  rw [goneOf, List.length_map]
  refine keep_len _ _ _ fun b hb => ?_
  have h1 := keep_iff (roots := roots) (at_ := at_) hu (b := b)
  have h2 : b ∈ (swept c roots at_).2.2.1 ↔ b ∈ c.2.2.1 ∧ hasS b.1 (goneOf c roots at_) = false := mem_keep
  rw [Bool.eq_iff_iff, Bool.not_eq_true', Bool.or_eq_false_iff, ← Bool.not_eq_false, ← Bool.not_eq_true (hasS b.1 (wantOf c roots)), hasS_iff (l := wantOf c roots)]
  constructor
  · intro h
    refine ⟨?_, fun hw => h (h2.1 (h1.2 ⟨hb, .inr hw⟩)).2⟩
    cases hh : heldB b at_
    · rfl
    · exact absurd (h2.1 (h1.2 ⟨hb, .inl hh⟩)).2 h
  · rintro ⟨h3, h4⟩ h
    rcases (h1.1 (h2.2 ⟨hb, h⟩)).2 with h5 | h5
    · rw [h3] at h5; cases h5
    · exact h4 h5
theorem rising_inj {α : Type} {key : α → ByteArray} {l : List α} (h : Rising key l) : ∀ x ∈ l, ∀ y ∈ l, key x = key y → x = y := by
  intro x hx y hy e
  obtain ⟨i, hi⟩ := List.getElem?_of_mem hx
  obtain ⟨j, hj⟩ := List.getElem?_of_mem hy
  rcases Nat.lt_trichotomy i j with h1 | h1 | h1
  · exact absurd e (strLt_ne (h i j x y h1 hi hj))
  · subst h1; rw [hi] at hj; exact Option.some.inj hj
  · exact absurd e.symm (strLt_ne (h j i y x h1 hj hi))
theorem rising_pw {α : Type} {key : α → ByteArray} {l : List α} : Rising key l ↔ l.Pairwise fun x y => strLt (key x) (key y) = true := by
  rw [List.pairwise_iff_getElem]
  constructor
  · intro h i j hi hj hij
    exact h i j _ _ hij (List.getElem?_eq_getElem hi) (List.getElem?_eq_getElem hj)
  · intro h i j x y hij hx hy
    obtain ⟨hi, rfl⟩ := List.getElem?_eq_some_iff.1 hx
    obtain ⟨hj, rfl⟩ := List.getElem?_eq_some_iff.1 hy
    exact h i j hi hj hij
theorem rising_keep {α : Type} {key : α → ByteArray} {l : List α} (p : α → Bool) (h : Rising key l) : Rising key (keepL p l) := rising_pw.2 ((rising_pw.1 h).sublist List.filter_sublist)
theorem sum_keep (p : Blob → Bool) : ∀ l : List Blob, (∀ b ∈ l, 0 ≤ b.2.1) → sumSz (keepL p l) ≤ sumSz l
  | [], _ => Int.le_refl _
  | b :: l, h => by
    have ih := sum_keep p l fun x hx => h x (by simp [hx])
    have hb := h b (by simp)
    simp only [keepL] at ih ⊢
    cases hp : p b <;> simp [List.filter_cons, hp, sumSz] <;> omega
end Go.Proofs.YteeemcghdhdodaaDoor
