/-
  cache.Shrunk. No statement of the seat is proved here; no conditions.
-/
import Derived.Test.YtigpcfneodohkaaDoorLvF
import Derived.Test.YtigpcfneodohkaaDoorCaW
namespace Go.Proofs.YtigpcfneodohkaaDoor
open Go.RowKit Go.Shelf
set_option linter.unusedVariables false
set_option linter.unusedSimpArgs false
set_option maxRecDepth 100000

/-- How many of them go, until there is room. -/
def cutN : Int → List Blob → Nat
  | _, [] => 0
  | over, b :: l => if over ≤ 0 then 0 else cutN (over - b.2.1) l + 1
theorem cutN_of : ∀ (l : List Blob) (over : Int) (s : Nat), s ≤ l.length → (∀ m, m < s → 0 < over - sumSz (l.take m)) → (s < l.length → over - sumSz (l.take s) ≤ 0) → cutN over l = s
  | [], over, s, h1, _, _ => by
    have : s = 0 := by simpa using h1
    rw [this]; rfl
  | b :: l, over, 0, _, _, h3 => by
    have := h3 (by simp)
    simp only [List.take_zero, sumSz] at this
    rw [cutN, if_pos (by omega)]
  | b :: l, over, s + 1, h1, h2, h3 => by
    have h0 := h2 0 (by omega)
    simp only [List.take_zero, sumSz] at h0
    rw [cutN, if_neg (by omega), cutN_of l (over - b.2.1) s (by simpa using h1) (fun m hm => ?_) (fun hm => ?_)]
    · have := h2 (m + 1) (by omega)
      simp only [List.take_succ_cons, sumSz] at this
      omega
    · have := h3 (by simpa using hm)
      simp only [List.take_succ_cons, sumSz] at this
      omega
/-- Their digests. -/
def digsB (l : List Blob) : List ByteArray := l.map fun b => b.1
def clrGone (bl : List Blob) (at_ over : Int) : List ByteArray := digsB ((leavV bl at_).take (cutN over (leavV bl at_)))
theorem leav_len {bl : List Blob} {at_ : Int} (hb : bl.length ≤ 1000000) : (leavV bl at_).length ≤ 1000000 := by
  unfold leavV
  rw [sortT_len]; exact Nat.le_trans (List.length_filter_le _ _) hb
def shrOver (c : Cache) (room : Int) : Int := sumSz c.2.2.1 - room
def shrGone (c : Cache) (room at_ : Int) : List ByteArray := clrGone c.2.2.1 at_ (shrOver c room)
def shrunk (c : Cache) (room at_ : Int) : Cache := (room, c.2.1, keepL (fun b : Blob => hasS b.1 (shrGone c room at_)) c.2.2.1, c.2.2.2)
theorem riseB_of {l : List Blob} (h : Rising (fun b : Blob => b.1) l) : RiseB l := by
  refine List.pairwise_iff_getElem.2 fun i j hi hj hij => ?_
  exact h i j _ _ hij (List.getElem?_eq_getElem hi) (List.getElem?_eq_getElem hj)
theorem wsum_leav {bl : List Blob} {at_ : Int} (hb : bl.length ≤ 100000) (h : ∀ b ∈ bl, 0 ≤ b.2.1 ∧ b.2.1 ≤ 100000000) : wsum (leavV bl at_) = sumSz (leavV bl at_) := by
  refine wsum_eq ?_ fun b hb => ?_
  · unfold leavV; rw [sortT_len]; exact Nat.le_trans (List.length_filter_le _ _) hb
  · unfold leavV at hb
    rw [(sortT_perm ltB _).mem_iff] at hb
    exact h b (List.mem_filter.1 hb).1
theorem atE_cache {c : Cache} {at_ : Int} (h : atE c at_ = 0) : ckCache c = 0 := ckAt_cache h
end Go.Proofs.YtigpcfneodohkaaDoor
