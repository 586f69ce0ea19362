/-
  What goes when room is made: plain law. No statement of the seat is proved here; no conditions.
-/
import Derived.Test.YtfajjcmagngfiaaDoorShr
import Derived.Test.YtfajjcmagngfiaaDoorCaX
namespace Go.Proofs.YtfajjcmagngfiaaDoor
open Go.RowKit Go.Shelf
set_option linter.unusedVariables false
set_option linter.unusedSimpArgs false
set_option maxRecDepth 100000

theorem sum_perm {l m : List Blob} (h : l.Perm m) : sumSz l = sumSz m := by
 induction h with
 | nil => rfl
 | cons x _ ih => simp only [sumSz,ih]
 | swap x y l => simp only [sumSz];omega
 | trans _ _ h1 h2 => exact h1.trans h2
theorem sum_split (p : Blob → Bool) : ∀ l : List Blob,sumSz (keepL p l) + sumSz (l.filter p) = sumSz l
 | [] => rfl
 | b :: l => by
  have ih := sum_split p l
  unfold keepL at ih ⊢
  cases hb : p b <;> simp [hb,sumSz] <;> omega
theorem gone_perm {bl T : List Blob} (hr : RiseB bl) (hn : T.Nodup) (hs : ∀ b ∈ T,b ∈ bl) : (bl.filter fun b => hasS b.1 (digsB T)).Perm T := by
 refine (List.perm_ext_iff_of_nodup ?_ hn).2 fun b => ?_
 ·refine List.Nodup.sublist List.filter_sublist ?_
  exact hr.imp fun h e => by subst e;rw [strLt_irrefl] at h;cases h
 ·rw [List.mem_filter,hasS_iff]
  constructor
  ·rintro ⟨h1,h2⟩
   unfold digsB at h2
   obtain ⟨d,h3,h4⟩ := List.mem_map.1 h2
   rw [← hr.inj (hs d h3) h1 h4];exact h3
  ·intro h
   exact ⟨hs b h,List.mem_map.2 ⟨b,h,rfl⟩⟩
theorem cut_sum : ∀ (l : List Blob) (over : Int),over ≤ sumSz l → over ≤ sumSz (l.take (cutN over l))
 | [],over,h => by simpa [sumSz] using h
 | b :: l,over,h => by
  unfold cutN
  split
  ·simp only [List.take_zero,sumSz];assumption
  ·simp only [List.take_succ_cons,sumSz] at h ⊢
   have := cut_sum l (over - b.2.1) (by omega)
   omega
theorem leav_nodup {bl : List Blob} {at_ : Int} (hr : RiseB bl) : (leavV bl at_).Nodup := by
 unfold leavV
 rw [(sortT_perm ltB _).nodup_iff]
 exact (ordB (keepL_rise hr)).nd
theorem clr_sum {bl : List Blob} {at_ over : Int} (hr : RiseB bl) (h : over ≤ sumSz (leavV bl at_)) : sumSz (keepL (fun b : Blob => hasS b.1 (clrGone bl at_ over)) bl) ≤ sumSz bl - over := by
 have h1 := sum_split (fun b : Blob => hasS b.1 (clrGone bl at_ over)) bl
 have h2 : (bl.filter fun b : Blob => hasS b.1 (clrGone bl at_ over)).Perm ((leavV bl at_).take (cutN over (leavV bl at_))) :=
  gone_perm hr ((leav_nodup hr).sublist (List.take_sublist _ _)) fun b hb => (leav_mem.1 (List.mem_of_mem_take hb)).1
 have h3 := sum_perm h2
 have h4 := cut_sum (leavV bl at_) over h
 omega
end Go.Proofs.YtfajjcmagngfiaaDoor
