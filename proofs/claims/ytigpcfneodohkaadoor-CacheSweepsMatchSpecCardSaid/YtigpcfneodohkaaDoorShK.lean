/-
  What is shrunk: plain law; the law's walk. No statement of the seat is proved here; no conditions.
-/
import Derived.Test.YtigpcfneodohkaaDoorShr
import Derived.Test.YtigpcfneodohkaaDoorCaX
import Derived.Test.YtigpcfneodohkaaDoorFrz2
import Derived.Test.YtigpcfneodohkaaDoorLvF
import Derived.Test.YtigpcfneodohkaaDoorLowA
namespace Go.Proofs.YtigpcfneodohkaaDoor
open Go.RowKit Go.Shelf
set_option linter.unusedVariables false
set_option linter.unusedSimpArgs false
set_option maxRecDepth 100000

theorem sum_perm {l m : List Blob} (h : l.Perm m) : sumSz l = sumSz m := by
  induction h with
  | nil => rfl
  | cons x _ ih => simp only [sumSz, ih]
  | swap x y l => simp only [sumSz]; omega
  | trans _ _ h1 h2 => exact h1.trans h2
/-- What is taken away is as much as it has, if it stands in the list. -/
theorem sum_split (p : Blob → Bool) : ∀ l : List Blob, sumSz (keepL p l) + sumSz (l.filter p) = sumSz l
  | [] => rfl
  | b :: l => by
    have ih := sum_split p l
    unfold keepL at ih ⊢
    cases hb : p b <;> simp [hb, sumSz] <;> omega
/-- Those of a list whose digests stand in a part of it, are the part. -/
theorem gone_perm {bl T : List Blob} (hr : RiseB bl) (hn : T.Nodup) (hs : ∀ b ∈ T, b ∈ bl) : (bl.filter fun b => hasS b.1 (digsB T)).Perm T := by
  refine (List.perm_ext_iff_of_nodup ?_ hn).2 fun b => ?_
  · refine List.Nodup.sublist List.filter_sublist ?_
    exact hr.imp fun h e => by subst e; rw [strLt_irrefl] at h; cases h
  · rw [List.mem_filter, hasS_iff]
    constructor
    · rintro ⟨h1, h2⟩
      unfold digsB at h2
      obtain ⟨d, h3, h4⟩ := List.mem_map.1 h2
      rw [← hr.inj (hs d h3) h1 h4]; exact h3
    · intro h
      exact ⟨hs b h, List.mem_map.2 ⟨b, h, rfl⟩⟩
theorem leav_nodup {bl : List Blob} {at_ : Int} (hr : RiseB bl) : (leavV bl at_).Nodup := by
  unfold leavV
  rw [(sortT_perm ltB _).nodup_iff]
  exact (ordB (keepL_rise hr)).nd
theorem shrErr_zero {c : Cache} {room at_ : Int} (h : shrErr c room at_ = 0) : atE c at_ = 0 ∧ inRg room 0 1000000000 = true ∧ shrOver c room ≤ sumSz (leavV c.2.2.1 at_) := by
  unfold shrErr at h
  by_cases h0 : atE c at_ = 0
  · rw [if_neg (fun h => h h0)] at h
    cases h1 : inRg room 0 1000000000
    · rw [h1] at h; cases h
    · rw [h1, if_pos rfl] at h
      by_cases h2 : sumSz (leavV c.2.2.1 at_) < shrOver c room
      · rw [if_pos h2] at h; cases h
      · exact ⟨h0, rfl, by omega⟩
  · rw [if_pos h0] at h; exact absurd h h0
theorem rcOwn_fz (c : Cache) (x y : List FV) : RcsFz (rcOwn c x y) (rcCache c) :=
  ⟨rfl, rfl, rcF_row (enc := fBlob) (fun _ => rfl), rcF_row (enc := fEntry) (fun _ => rfl), trivial⟩
end Go.Proofs.YtigpcfneodohkaaDoor
