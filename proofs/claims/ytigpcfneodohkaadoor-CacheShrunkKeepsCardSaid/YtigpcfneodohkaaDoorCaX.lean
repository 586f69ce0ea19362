/-
  Right caches, told by their parts; what is swept is right. No statement of the seat is proved here; no conditions.
-/
import Derived.Test.YtigpcfneodohkaaDoorCaW
import Derived.Test.YtigpcfneodohkaaDoorCaQ
import Derived.Test.YtigpcfneodohkaaDoorCaL
namespace Go.Proofs.YtigpcfneodohkaaDoor
open Go.RowKit Go.Shelf
set_option linter.unusedVariables false
set_option linter.unusedSimpArgs false
set_option maxRecDepth 100000

theorem hasB_iff {bl : List Blob} {d : ByteArray} : hasB bl d = true ↔ ∃ b ∈ bl, b.1 = d := by
  unfold hasB hasK
  rw [List.any_eq_true]
  simp only [decide_eq_true_eq]
theorem missing_zero {bl : List Blob} {l : List ByteArray} : (missingOf bl l).length = 0 ↔ ∀ d ∈ l, hasB bl d = true := by
  rw [List.length_eq_zero_iff, missingOf, List.filter_eq_nil_iff]
  simp
theorem mem_keep {α : Type} {p : α → Bool} {l : List α} {x : α} : x ∈ keepL p l ↔ x ∈ l ∧ p x = false := by
  rw [keepL, List.mem_filter]; simp
theorem mem_also {bl : List Blob} {roots : List ByteArray} {en : List Entry} {d : ByteArray} : d ∈ alsoOf bl roots en ↔ ∃ e ∈ en, e.1 ∈ roots ∧ (∀ r ∈ e.2.1, hasB bl r = true) ∧ d ∈ e.2.1 := by
  rw [alsoOf, List.mem_flatMap]
  constructor
  · rintro ⟨e, h1, h2⟩
    rw [List.mem_filter, Bool.and_eq_true, decide_eq_true_eq, hasS_iff, missing_zero] at h1
    exact ⟨e, h1.1, h1.2.1, h1.2.2, h2⟩
  · rintro ⟨e, h1, h2, h3, h4⟩
    refine ⟨e, ?_, h4⟩
    rw [List.mem_filter, Bool.and_eq_true, decide_eq_true_eq, hasS_iff, missing_zero]
    exact ⟨h1, h2, h3⟩
/-- Blobs that stay are held or wanted; those that go are not. -/
theorem gone_iff {c : Cache} {roots : List ByteArray} {at_ : Int} {b : Blob} : b ∈ goneB c roots at_ ↔ b ∈ c.2.2.1 ∧ heldB b at_ = false ∧ b.1 ∉ wantOf c roots := by
  rw [goneB, mem_keep, Bool.or_eq_false_iff, ← hasS_iff, Bool.not_eq_true]
theorem keep_iff {c : Cache} {roots : List ByteArray} {at_ : Int} {b : Blob} (hu : ∀ x ∈ c.2.2.1, ∀ y ∈ c.2.2.1, x.1 = y.1 → x = y) : b ∈ (swept c roots at_).2.2.1 ↔ b ∈ c.2.2.1 ∧ (heldB b at_ = true ∨ b.1 ∈ wantOf c roots) := by
  show b ∈ keepL _ _ ↔ _
  rw [mem_keep]
  refine and_congr_right fun hb => ?_
  rw [← Bool.not_eq_true, hasS_iff, goneOf, List.mem_map]
  constructor
  · intro h
    cases hh : heldB b at_
    · refine .inr (Classical.byContradiction fun hw => h ⟨b, gone_iff.2 ⟨hb, hh, hw⟩, rfl⟩)
    · exact .inl rfl
  · rintro h ⟨x, hx, he⟩
    obtain ⟨h1, h2, h3⟩ := gone_iff.1 hx
    obtain rfl := hu x h1 b hb he
    rcases h with h | h
    · rw [h2] at h; cases h
    · exact h3 h
theorem want_again {c : Cache} {roots : List ByteArray} {at_ : Int} (hu : ∀ x ∈ c.2.2.1, ∀ y ∈ c.2.2.1, x.1 = y.1 → x = y) {d : ByteArray} (h : d ∈ wantOf c roots) : d ∈ wantOf (swept c roots at_) roots := by
  rw [wantOf, List.mem_append] at h ⊢
  refine h.imp_right fun h => ?_
  have h' := mem_also.1 h
  obtain ⟨e, h1, h2, h3, h4⟩ := h'
  refine mem_also.2 ⟨e, ?_, h2, fun r hr => ?_, h4⟩
  · show e ∈ keepL _ _
    rw [mem_keep]
    exact ⟨h1, by rw [hasS_iff.2 h2]; rfl⟩
  · obtain ⟨b, hb, hbe⟩ := hasB_iff.1 (h3 r hr)
    refine hasB_iff.2 ⟨b, (keep_iff hu).2 ⟨hb, .inr ?_⟩, hbe⟩
    rw [wantOf, List.mem_append]
    exact .inr (mem_also.2 ⟨e, h1, h2, h3, hbe ▸ hr⟩)
theorem gone_again {c : Cache} {roots : List ByteArray} {at_ : Int} (hu : ∀ x ∈ c.2.2.1, ∀ y ∈ c.2.2.1, x.1 = y.1 → x = y) : goneB (swept c roots at_) roots at_ = [] := by
  refine List.eq_nil_iff_forall_not_mem.2 fun b hb => ?_
  obtain ⟨h1, h2, h3⟩ := gone_iff.1 hb
  rcases ((keep_iff hu).1 h1).2 with h | h
  · rw [h2] at h; cases h
  · exact h3 (want_again hu h)
theorem swept_again {c : Cache} {roots : List ByteArray} {at_ : Int} (hu : ∀ x ∈ c.2.2.1, ∀ y ∈ c.2.2.1, x.1 = y.1 → x = y) : swept (swept c roots at_) roots at_ = swept c roots at_ ∧ goneOf (swept c roots at_) roots at_ = [] := by
  have h1 : goneOf (swept c roots at_) roots at_ = [] := by rw [goneOf, gone_again hu]; rfl
  refine ⟨?_, h1⟩
  have h2 : swept (swept c roots at_) roots at_ = ((swept c roots at_).1, (swept c roots at_).2.1, keepL (fun b : Blob => hasS b.1 (goneOf (swept c roots at_) roots at_)) (swept c roots at_).2.2.1, keepL (fun e : Entry => !hasS e.1 roots) (swept c roots at_).2.2.2) := rfl
  rw [h2, h1]
  have e1 : ∀ l : List Blob, keepL (fun b : Blob => hasS b.1 []) l = l := fun l => List.filter_eq_self.2 fun b _ => rfl
  have e2 : keepL (fun e : Entry => !hasS e.1 roots) (swept c roots at_).2.2.2 = (swept c roots at_).2.2.2 := List.filter_eq_self.2 fun e he => by
    have := (mem_keep.1 (show e ∈ keepL (fun e : Entry => !hasS e.1 roots) c.2.2.2 from he)).2
    show (!(!hasS e.1 roots)) = true
    rw [this]; rfl
  rw [e1, e2]
/-- Entries of roots are whole behind it just if they were. -/
theorem whole_again {c : Cache} {roots : List ByteArray} {at_ : Int} (hu : ∀ x ∈ c.2.2.1, ∀ y ∈ c.2.2.1, x.1 = y.1 → x = y) {e : Entry} (he : e ∈ c.2.2.2) (hr : e.1 ∈ roots) :
    (missingOf (swept c roots at_).2.2.1 e.2.1).length = 0 ↔ (missingOf c.2.2.1 e.2.1).length = 0 := by
  rw [missing_zero, missing_zero]
  constructor
  · intro h d hd
    obtain ⟨b, hb, hbe⟩ := hasB_iff.1 (h d hd)
    exact hasB_iff.2 ⟨b, ((keep_iff hu).1 hb).1, hbe⟩
  · intro h d hd
    obtain ⟨b, hb, hbe⟩ := hasB_iff.1 (h d hd)
    refine hasB_iff.2 ⟨b, (keep_iff hu).2 ⟨hb, .inr ?_⟩, hbe⟩
    rw [wantOf, List.mem_append]
    exact .inr (mem_also.2 ⟨e, he, hr, h, hbe ▸ hd⟩)
theorem keep_len {α : Type} (p q : α → Bool) : ∀ l : List α, (∀ x ∈ l, p x = !q x) → (keepL p l).length + (keepL q l).length = l.length
  | [], _ => rfl
  | x :: l, h => by
    have ih := keep_len p q l fun y hy => h y (by simp [hy])
    have hx := h x (by simp)
    simp only [keepL] at ih ⊢
    cases hq : q x <;> rw [hq] at hx <;> simp [List.filter_cons, hx, hq] <;> omega
theorem gone_len {c : Cache} {roots : List ByteArray} {at_ : Int} (hu : ∀ x ∈ c.2.2.1, ∀ y ∈ c.2.2.1, x.1 = y.1 → x = y) : (swept c roots at_).2.2.1.length + (goneOf c roots at_).length = c.2.2.1.length := by
  rw [goneOf, List.length_map]
  refine keep_len _ _ _ fun b hb => ?_
  have h1 := keep_iff (roots := roots) (at_ := at_) hu (b := b)
  have h2 : b ∈ (swept c roots at_).2.2.1 ↔ b ∈ c.2.2.1 ∧ hasS b.1 (goneOf c roots at_) = false := mem_keep
  rw [Bool.eq_iff_iff, Bool.not_eq_true', Bool.or_eq_false_iff, ← Bool.not_eq_false, ← Bool.not_eq_true (hasS b.1 (wantOf c roots)), hasS_iff (l := wantOf c roots)]
  constructor
  · intro h
    refine ⟨?_, fun hw => h (h2.1 (h1.2 ⟨hb, .inr hw⟩)).2⟩
    cases hh : heldB b at_
    · rfl
    · exact absurd (h2.1 (h1.2 ⟨hb, .inl hh⟩)).2 h
  · rintro ⟨h3, h4⟩ h
    rcases (h1.1 (h2.2 ⟨hb, h⟩)).2 with h5 | h5
    · rw [h3] at h5; cases h5
    · exact h4 h5
theorem rising_inj {α : Type} {key : α → ByteArray} {l : List α} (h : Rising key l) : ∀ x ∈ l, ∀ y ∈ l, key x = key y → x = y := by
  intro x hx y hy e
  obtain ⟨i, hi⟩ := List.getElem?_of_mem hx
  obtain ⟨j, hj⟩ := List.getElem?_of_mem hy
  rcases Nat.lt_trichotomy i j with h1 | h1 | h1
  · exact absurd e (strLt_ne (h i j x y h1 hi hj))
  · subst h1; rw [hi] at hj; exact Option.some.inj hj
  · exact absurd e.symm (strLt_ne (h j i y x h1 hj hi))
theorem rising_pw {α : Type} {key : α → ByteArray} {l : List α} : Rising key l ↔ l.Pairwise fun x y => strLt (key x) (key y) = true := by
  rw [List.pairwise_iff_getElem]
  constructor
  · intro h i j hi hj hij
    exact h i j _ _ hij (List.getElem?_eq_getElem hi) (List.getElem?_eq_getElem hj)
  · intro h i j x y hij hx hy
    obtain ⟨hi, rfl⟩ := List.getElem?_eq_some_iff.1 hx
    obtain ⟨hj, rfl⟩ := List.getElem?_eq_some_iff.1 hy
    exact h i j hi hj hij
theorem rising_keep {α : Type} {key : α → ByteArray} {l : List α} (p : α → Bool) (h : Rising key l) : Rising key (keepL p l) := rising_pw.2 ((rising_pw.1 h).sublist List.filter_sublist)
theorem sum_keep (p : Blob → Bool) : ∀ l : List Blob, (∀ b ∈ l, 0 ≤ b.2.1) → sumSz (keepL p l) ≤ sumSz l
  | [], _ => Int.le_refl _
  | b :: l, h => by
    have ih := sum_keep p l fun x hx => h x (by simp [hx])
    have hb := h b (by simp)
    simp only [keepL] at ih ⊢
    cases hp : p b <;> simp [List.filter_cons, hp, sumSz] <;> omega
theorem leS_of_lt {a b : ByteArray} (h : strLt a b = true) : leS b a = false := by
  unfold leS
  rw [strLt_asymm h, Bool.false_or, decide_eq_false_iff_not]
  exact fun e => strLt_ne h e.symm
theorem prevV_ok {α : Type} {key : α → ByteArray} {l : List α} {m : Nat} {b : α} (hr : Rising key l) (hb : l[m]? = some b) : prevV l m (fun e => if leS (key b) (key e) = true then (8 : Int) else 0) = 0 := by
  unfold prevV
  split
  · rfl
  · rename_i h
    split
    · rename_i e he
      show (if leS (key b) (key e) = true then (8 : Int) else 0) = 0
      rw [leS_of_lt (hr (m - 1) m e b (by omega) he hb)]; rfl
    · rfl
theorem rising_prev {α : Type} {key : α → ByteArray} {l : List α} (h : ∀ (m : Nat) b, l[m]? = some b → prevV l m (fun e => if leS (key b) (key e) = true then (8 : Int) else 0) = 0) : Rising key l := rising_of fun i x y hx hy =>
  leS_false (prevV_zero (p := fun e => leS (key y) (key e)) hx (by decide) (h (i + 1) y hy))
def blobOk (b : Blob) : Bool := isDig b.1 && (inRg b.2.1 0 100000000 && inRg b.2.2.1 0 1000000000 && inRg b.2.2.2.1 0 1001000000 && inRg b.2.2.2.2 0 3000)
theorem blobErr_iff {l : List Blob} {m : Nat} {b : Blob} (hb : l[m]? = some b) : blobErr l m = 0 ↔ blobOk b = true ∧ prevV l m (fun e => if leS b.1 e.1 = true then (8 : Int) else 0) = 0 := by
  rw [blobErr_of hb, blobOk]
  generalize isDig b.1 = a
  generalize (inRg b.2.1 0 100000000 && inRg b.2.2.1 0 1000000000 && inRg b.2.2.2.1 0 1001000000 && inRg b.2.2.2.2 0 3000) = r
  cases a <;> cases r <;> simp
theorem blobs_iff {l : List Blob} : (∀ m, m < l.length → blobErr l m = 0) ↔ (∀ b ∈ l, blobOk b = true) ∧ Rising (fun b : Blob => b.1) l := by
  constructor
  · intro h
    refine ⟨fun b hb => ?_, rising_prev fun m b hb => ((blobErr_iff hb).1 (h m (List.getElem?_eq_some_iff.1 hb).1)).2⟩
    obtain ⟨m, hm⟩ := List.mem_iff_getElem?.1 hb
    exact ((blobErr_iff hm).1 (h m (List.getElem?_eq_some_iff.1 hm).1)).1
  · rintro ⟨h1, h2⟩ m hm
    obtain ⟨b, hb⟩ := get_some hm
    exact (blobErr_iff hb).2 ⟨h1 b (List.mem_of_getElem? hb), prevV_ok h2 hb⟩
def entOk (e : Entry) : Bool := isDig e.1 && (decide (ckDigsM e.2.1 200 = 0) && inRg e.2.2 0 1000000000)
theorem entErr_iff {l : List Entry} {m : Nat} {b : Entry} (hb : l[m]? = some b) : entErr l m = 0 ↔ entOk b = true ∧ prevV l m (fun e => if leS b.1 e.1 = true then (8 : Int) else 0) = 0 := by
  rw [entErr_of hb, entOk]
  generalize isDig b.1 = a
  generalize ckDigsM b.2.1 200 = k
  generalize inRg b.2.2 0 1000000000 = r
  by_cases hk : k = 0
  · cases a <;> cases r <;> simp [hk]
  · cases a <;> cases r <;> simp [hk]
theorem ents_iff {l : List Entry} : (∀ m, m < l.length → entErr l m = 0) ↔ (∀ b ∈ l, entOk b = true) ∧ Rising (fun b : Entry => b.1) l := by
  constructor
  · intro h
    refine ⟨fun b hb => ?_, rising_prev fun m b hb => ((entErr_iff hb).1 (h m (List.getElem?_eq_some_iff.1 hb).1)).2⟩
    obtain ⟨m, hm⟩ := List.mem_iff_getElem?.1 hb
    exact ((entErr_iff hm).1 (h m (List.getElem?_eq_some_iff.1 hm).1)).1
  · rintro ⟨h1, h2⟩ m hm
    obtain ⟨b, hb⟩ := get_some hm
    exact (entErr_iff hb).2 ⟨h1 b (List.mem_of_getElem? hb), prevV_ok h2 hb⟩
/-- A right cache, by its parts. -/
structure CRight (c : Cache) : Prop where
  room : inRg c.1 0 1000000000 = true
  lease : inRg c.2.1 0 1000000 = true
  blen : c.2.2.1.length ≤ 3000
  bok : ∀ b ∈ c.2.2.1, blobOk b = true
  brise : Rising (fun b : Blob => b.1) c.2.2.1
  bsum : sumSz c.2.2.1 ≤ c.1
  elen : c.2.2.2.length ≤ 1000
  eok : ∀ e ∈ c.2.2.2, entOk e = true
  erise : Rising (fun b : Entry => b.1) c.2.2.2
theorem right_iff {c : Cache} : ckCache c = 0 ↔ CRight c := by
  constructor
  · intro h
    have ho := cok_of h
    obtain ⟨b1, b2⟩ := blobs_iff.1 ho.berr
    obtain ⟨e1, e2⟩ := ents_iff.1 ho.eerr
    have hr := ho.room
    have hl := ho.lease
    exact ⟨by simp [inRg]; omega, by simp [inRg]; omega, ho.blen, b1, b2, ho.bsum, ho.elen, e1, e2⟩
  · intro h
    have hb := fe_none (blobs_iff.2 ⟨h.bok, h.brise⟩)
    have he := fe_none (ents_iff.2 ⟨h.eok, h.erise⟩)
    have h1 : ckBlobs c.2.2.1 c.1 = 0 := by
      unfold ckBlobs
      have := h.blen
      have := h.bsum
      rw [if_neg (by omega), hb, if_neg (by simp), if_neg (by omega)]
    unfold ckCache
    have := h.elen
    rw [h.room, h.lease, if_pos (by rfl), h1, if_neg (by simp), if_neg (by omega), he]
theorem mem_of_keep {α : Type} {p : α → Bool} {l : List α} {x : α} (h : x ∈ keepL p l) : x ∈ l := (mem_keep.1 h).1
theorem keep_le {α : Type} (p : α → Bool) (l : List α) : (keepL p l).length ≤ l.length := List.length_filter_le _ _
theorem blobOk_size {b : Blob} (h : blobOk b = true) : 0 ≤ b.2.1 := by
  simp [blobOk, inRg] at h; omega
theorem swept_right {c : Cache} (roots : List ByteArray) (at_ : Int) (h : CRight c) : CRight (swept c roots at_) :=
  ⟨h.room, h.lease, Nat.le_trans (keep_le _ _) h.blen, fun b hb => h.bok b (mem_of_keep hb), rising_keep _ h.brise,
    Int.le_trans (sum_keep _ _ fun b hb => blobOk_size (h.bok b hb)) h.bsum, Nat.le_trans (keep_le _ _) h.elen, fun b hb => h.eok b (mem_of_keep hb), rising_keep _ h.erise⟩
theorem wholeV_iff {c : Cache} {key : ByteArray} (hr : Rising (fun b : Entry => b.1) c.2.2.2) : wholeV c key = true ↔ ∃ e ∈ c.2.2.2, e.1 = key ∧ (missingOf c.2.2.1 e.2.1).length = 0 := by
  unfold wholeV
  cases hh : hasE c.2.2.2 key
  · constructor
    · intro h; split at h <;> simp at h
    · rintro ⟨e, h1, h2, _⟩
      have : hasE c.2.2.2 key = true := by
        unfold hasE hasK; rw [List.any_eq_true]; exact ⟨e, h1, by simpa using h2⟩
      rw [hh] at this; cases this
  · obtain ⟨e, hx, hek⟩ := hasE_at hr hh
    simp only [hx, Bool.true_and, decide_eq_true_eq]
    constructor
    · intro h; exact ⟨e, List.mem_of_getElem? hx, hek, h⟩
    · rintro ⟨e', h1, h2, h3⟩
      have := rising_inj hr e (List.mem_of_getElem? hx) e' h1 (by rw [hek, h2])
      rw [this]; exact h3
theorem whole_swept {c : Cache} {roots : List ByteArray} {at_ : Int} (h : CRight c) {key : ByteArray} (hk : key ∈ roots) : wholeV (swept c roots at_) key = wholeV c key := by
  have hu := rising_inj h.brise
  rw [Bool.eq_iff_iff, wholeV_iff h.erise, wholeV_iff (swept_right roots at_ h).erise]
  constructor
  · rintro ⟨e, h1, h2, h3⟩
    have he : e ∈ c.2.2.2 := mem_of_keep h1
    exact ⟨e, he, h2, (whole_again hu he (h2 ▸ hk)).1 h3⟩
  · rintro ⟨e, h1, h2, h3⟩
    refine ⟨e, ?_, h2, (whole_again hu h1 (h2 ▸ hk)).2 h3⟩
    show e ∈ keepL _ _
    rw [mem_keep]
    exact ⟨h1, by rw [hasS_iff.2 (h2 ▸ hk)]; rfl⟩
theorem digs_at {l : List ByteArray} (h : ckDigsM l 3000 = 0) : ∀ d ∈ l, isDig d = true := fun d hd => by
  unfold ckDigsM at h
  split at h
  · cases h
  · obtain ⟨m, hm⟩ := List.mem_iff_getElem?.1 hd
    have h1 := fe_zero h m (List.getElem?_eq_some_iff.1 hm).1
    rw [digErr_of hm] at h1
    split at h1
    · assumption
    · cases h1

open Go.RowKit Go.Shelf
set_option linter.unusedVariables false
set_option linter.unusedSimpArgs false
set_option maxRecDepth 100000

theorem wholeErr_zero {c : Cache} {key : ByteArray} (h : ckCache c = 0) (hk : isDig key = true) : wholeErr c key = 0 := by
  unfold wholeErr; rw [if_neg (by simpa using h), if_pos hk]
theorem sbound_swept {c : Cache} (roots : List ByteArray) (at_ : Int) (h : SBound c) : SBound (swept c roots at_) := by
  obtain ⟨⟨h1, h2, h3⟩, h4, h5⟩ := h
  have k1 := keep_le (fun b : Blob => hasS b.1 (goneOf c roots at_)) c.2.2.1
  have k2 := keep_le (fun e : Entry => !hasS e.1 roots) c.2.2.2
  refine ⟨⟨?_, ?_, fun e he => h3 e (mem_of_keep he)⟩, fun b hb => h4 b (mem_of_keep hb), fun e he => h5 e (mem_of_keep he)⟩
  · show ((keepL _ _).length : Int) ≤ _; omega
  · show ((keepL _ _).length : Int) ≤ _; omega
open Go.RowKit
set_option linter.unusedVariables false
set_option linter.unusedSimpArgs false

theorem args3 {G : Ghost} {Z : Nat → Prop} {w : World} {a b c : AV} {u v x : Value} (h1 : RepA G Z w a u) (h2 : RepA G Z w b v) (h3 : RepA G Z w c x) : ∀ (j : Nat) (y : AV) (z : Value), [a, b, c][j]? = some y → (#[u, v, x] : Array Value)[j]? = some z → RepA G Z w y z := by
  intro j y z hy hz
  rcases j with _ | _ | _ | j
  · obtain rfl := Option.some.inj hy; simp at hz; subst hz; exact h1
  · obtain rfl := Option.some.inj hy; simp at hz; subst hz; exact h2
  · obtain rfl := Option.some.inj hy; simp at hz; subst hz; exact h3
  · simp at hy
end Go.Proofs.YtigpcfneodohkaaDoor
