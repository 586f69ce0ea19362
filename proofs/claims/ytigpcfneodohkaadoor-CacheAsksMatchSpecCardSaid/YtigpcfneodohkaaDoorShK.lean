/-
  What is shrunk: plain law; the law's walk. No statement of the seat is proved here; no conditions.
-/
import Derived.Test.YtigpcfneodohkaaDoorShr
import Derived.Test.YtigpcfneodohkaaDoorCaX
import Derived.Test.YtigpcfneodohkaaDoorFrz2
import Derived.Test.YtigpcfneodohkaaDoorLvF
import Derived.Test.YtigpcfneodohkaaDoorLowA
namespace Go.Proofs.YtigpcfneodohkaaDoor
open Go.RowKit Go.Shelf
set_option linter.unusedVariables false
set_option linter.unusedSimpArgs false
set_option maxRecDepth 100000

theorem sum_perm {l m : List Blob} (h : l.Perm m) : sumSz l = sumSz m := by
  induction h with
  | nil => rfl
  | cons x _ ih => simp only [sumSz, ih]
  | swap x y l => simp only [sumSz]; omega
  | trans _ _ h1 h2 => exact h1.trans h2
/-- What is taken away is as much as it has, if it stands in the list. -/
theorem sum_split (p : Blob → Bool) : ∀ l : List Blob, sumSz (keepL p l) + sumSz (l.filter p) = sumSz l
  | [] => rfl
  | b :: l => by
    have ih := sum_split p l
    unfold keepL at ih ⊢
    cases hb : p b <;> simp [hb, sumSz] <;> omega
/-- Those of a list whose digests stand in a part of it, are the part. -/
theorem gone_perm {bl T : List Blob} (hr : RiseB bl) (hn : T.Nodup) (hs : ∀ b ∈ T, b ∈ bl) : (bl.filter fun b => hasS b.1 (digsB T)).Perm T := by
  refine (List.perm_ext_iff_of_nodup ?_ hn).2 fun b => ?_
  · refine List.Nodup.sublist List.filter_sublist ?_
    exact hr.imp fun h e => by subst e; rw [strLt_irrefl] at h; cases h
  · rw [List.mem_filter, hasS_iff]
    constructor
    · rintro ⟨h1, h2⟩
      unfold digsB at h2
      obtain ⟨d, h3, h4⟩ := List.mem_map.1 h2
      rw [← hr.inj (hs d h3) h1 h4]; exact h3
    · intro h
      exact ⟨hs b h, List.mem_map.2 ⟨b, h, rfl⟩⟩
theorem leav_nodup {bl : List Blob} {at_ : Int} (hr : RiseB bl) : (leavV bl at_).Nodup := by
  unfold leavV
  rw [(sortT_perm ltB _).nodup_iff]
  exact (ordB (keepL_rise hr)).nd
theorem next_z (c : Cache) (at_ : Int) (hb : CBound c) (h : atE c at_ = 0) : FRet Tryd.prog 9 [aCache c, .f (.int .i64 at_)] [.c (.v (frStrs (digsB (leavV c.2.2.1 at_)))), .c (.v (.int .i64 0))] := by
  have hc := cok_of (atE_cache h)
  refine (next_ok c at_ hb (by have := hc.blen; omega) (riseB_of hc.rb) h).frz2 ⟨?_, rfl, trivial⟩
  have := rcF_row0 (enc := encS) (l := digsB (leavV c.2.2.1 at_)) (fun _ => rfl)
  have e1 : (digsB (leavV c.2.2.1 at_)).length = (leavV c.2.2.1 at_).length := by unfold digsB; exact List.length_map _
  have e2 : rowF encS (digsB (leavV c.2.2.1 at_)) = (digsB (leavV c.2.2.1 at_)).map .str := by
    unfold rowF encS
    generalize digsB (leavV c.2.2.1 at_) = l
    induction l with
    | nil => rfl
    | cons a l ih => simp only [List.map_cons, List.flatten_cons, ih]; rfl
  rw [e1, e2] at this
  exact this
end Go.Proofs.YtigpcfneodohkaaDoor
