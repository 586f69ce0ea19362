/-
  The plain law: what frames are fed to.
-/
import Derived.Test.YteoojplgchlhcaaDoorFramesR
import Derived.Test.YteoojplgchlhcaaDoorFeed6
namespace Go.Proofs.YteoojplgchlhcaaDoor
open Go.RowKit
set_option linter.unusedVariables false
set_option linter.unusedSimpArgs false

def hdr (m : Msg) : List UInt8 := UInt8.ofNat m.1.toNat :: (m.2.1.data.toList ++ (be4 (m.2.2.1 + m.2.2.2.1).toNat ++ be3 m.2.2.2.2.length))
theorem frameOf_hdr (m : Msg) : frameOf m = hdr m ++ m.2.2.2.2 := by simp [frameOf, hdr]
theorem numOf_be4 {n : Nat} (h : n < 4294967296) : numOf (be4 n) = n := by
  simp only [numOf, be4, List.foldl_cons, List.foldl_nil, UInt8.toNat_ofNat']
  omega
theorem numOf_be3 {n : Nat} (h : n < 16777216) : numOf (be3 n) = n := by
  simp only [numOf, be3, List.foldl_cons, List.foldl_nil, UInt8.toNat_ofNat']
  omega
section
variable {m : Msg} (h : mCode m = 0)
include h
theorem digest_len : m.2.1.data.toList.length = 16 := by
  obtain ⟨_, _, hd, _⟩ := msgCode_ok h
  rw [Array.length_toList]; exact hd
theorem hdr_len : (hdr m).length = 24 := by
  have := digest_len h
  simp [hdr, be4, be3] at this ⊢
  omega
theorem head_kind (r : List UInt8) : (((hdr m ++ r).headD 0).toNat : Int) = m.1 := by
  obtain ⟨h1, h2, _⟩ := msgCode_ok h
  show ((UInt8.ofNat m.1.toNat).toNat : Int) = m.1
  rw [UInt8.toNat_ofNat']; omega
theorem head_frame (r : List UInt8) : headOfL (hdr m ++ r) = ((m.1, m.2.1, m.2.2.1, m.2.2.2.1, []), m.2.2.2.2.length) := by
  obtain ⟨h1, h2, hd, f1, f2, s1, s2, hm, c1, c2, c3⟩ := msgCode_ok h
  have hk := head_kind h r
  have hl := digest_len h
  have e1 : ((hdr m ++ r).drop 1).take 16 = m.2.1.data.toList := by
    simp only [hdr, List.cons_append, List.drop_succ_cons, List.drop_zero, List.append_assoc]
    rw [List.take_append_of_le_length (by omega), List.take_of_length_le (by omega)]
  have e2 : ((hdr m ++ r).drop 17).take 4 = be4 (m.2.2.1 + m.2.2.2.1).toNat := by
    simp only [hdr, List.cons_append, List.drop_succ_cons, List.append_assoc]
    rw [List.drop_append_of_le_length (by omega), List.drop_of_length_le (by omega)]
    simp [be4]
  have e3 : ((hdr m ++ r).drop 21).take 3 = be3 m.2.2.2.2.length := by
    simp only [hdr, List.cons_append, List.drop_succ_cons, List.append_assoc]
    rw [List.drop_append, List.drop_of_length_le (l := m.2.1.data.toList) (by omega), hl]
    simp [be4, be3]
  have e4 : (⟨m.2.1.data.toList.toArray⟩ : ByteArray) = m.2.1 := by
    show (⟨m.2.1.data.toList.toArray⟩ : ByteArray) = m.2.1
    rw [Array.toArray_toList]
  unfold headOfL
  simp only [e1, e2, e3, e4, hk, numOf_be3 (show m.2.2.2.2.length < 16777216 by omega), numOf_be4 (show (m.2.2.1 + m.2.2.2.1).toNat < 4294967296 by omega)]
  by_cases hk1 : m.1 = 1
  · have := c1 ⟨by omega, by omega⟩
    rw [if_pos hk1, if_pos hk1, this]
    simp only [Prod.mk.injEq, true_and, and_true]
    omega
  · have := c2 hk1
    rw [if_neg hk1, if_neg hk1, this]
    simp only [Prod.mk.injEq, true_and, and_true]
    omega
end

def flen (l : List Msg) : Nat := (l.flatMap frameOf).length
theorem feedGo_stream (all : List UInt8) : ∀ (rest : List Msg) (f k t : Nat) (out : List Msg), (∀ m ∈ rest, mCode m = 0) → all.drop k = (rest.flatMap frameOf).take t → out.length + rest.length ≤ 20000 → k ≤ all.length → all.length - k ≤ f → (k < all.length → 0 < f) →
    ∃ j, j ≤ rest.length ∧ feedGo all f out k = (out ++ rest.take j, all.drop (k + flen (rest.take j)), 0, 0) ∧ all.drop (k + flen (rest.take j)) = ((rest.drop j).flatMap frameOf).take (t - flen (rest.take j)) ∧ k + flen (rest.take j) ≤ all.length ∧
      ∀ m r, rest.drop j = m :: r → (all.drop (k + flen (rest.take j))).length < (frameOf m).length := by
  intro rest
  induction rest with
  | nil =>
    intro f k t out _ hd _ hk hf hf0
    have hl : all.length ≤ k := by
      have := congrArg List.length hd
      simp at this; omega
    refine ⟨0, by simp, ?_, by simp [flen]; simpa using hd, by simp [flen]; exact hk, fun m r hr => by simp at hr⟩
    have := FeedRel.end_ (res := feedGo all f out k) ⟨f, hf, hf0, rfl⟩ hl
    rw [this]; simp [flen]
  | cons m r ih =>
    intro f k t out hv hd hn hk hf hf0
    have hm := hv m (by simp)
    have hL := frameOf_len hm
    have hR : FeedRel all (feedGo all f out k) out k := ⟨f, hf, hf0, rfl⟩
    have zero : all.drop (k + flen ((m :: r).take 0)) = (((m :: r).drop 0).flatMap frameOf).take (t - flen ((m :: r).take 0)) := by simpa [flen] using hd
    by_cases hlt : k < all.length
    rotate_left
    · refine ⟨0, by simp, ?_, zero, by simp [flen]; exact hk, fun m' r' hr => ?_⟩
      · rw [hR.end_ (by omega)]; simp [flen]
      · simp at hr
        obtain ⟨rfl, _⟩ := hr
        simp [flen]; omega
    have hdl : (all.drop k).length = all.length - k := by simp
    have hno : ¬ out.length = 20000 := by simp at hn; omega
    rw [List.flatMap_cons, frameOf_hdr] at hd
    by_cases ht : t < (frameOf m).length
    · have hd2 : all.drop k = (hdr m ++ m.2.2.2.2).take t := by rw [hd, List.take_append_of_le_length (by rw [← frameOf_hdr]; omega)]
      have hlen : all.length - k = t := by
        rw [← hdl, hd2, List.length_take, ← frameOf_hdr]; omega
      have hshort : ∀ m' r', (m :: r).drop 0 = m' :: r' → (all.drop (k + flen ((m :: r).take 0))).length < (frameOf m').length := by
        intro m' r' hr
        simp at hr
        obtain ⟨rfl, _⟩ := hr
        simp [flen]; omega
      have hk1 : inR (((all.drop k).headD 0).toNat : Int) 1 6 = true := by
        obtain ⟨a1, a2, _⟩ := msgCode_ok hm
        have e : (all.drop k).headD 0 = (hdr m ++ m.2.2.2.2).headD 0 := by
          rw [hd2]
          cases t with
          | zero => omega
          | succ t => simp [hdr]
        rw [e, head_kind hm]
        simp [inR]; omega
      by_cases h24 : all.length < k + 24
      · refine ⟨0, by simp, ?_, zero, by simp [flen]; exact hk, hshort⟩
        rw [hR.short hlt hno hk1 h24]; simp [flen]
      · have hd3 : all.drop k = hdr m ++ m.2.2.2.2.take (t - 24) := by
          rw [hd2, List.take_append, List.take_of_length_le (by rw [hdr_len hm]; omega), hdr_len hm]
        have hh := head_frame hm (m.2.2.2.2.take (t - 24))
        rw [← hd3] at hh
        have hmany : manyOf (all.drop k) = m.2.2.2.2.length := by unfold manyOf; rw [hh]
        have hcode : headCode (all.drop k) = 0 := by unfold headCode; rw [hh]; exact hm
        refine ⟨0, by simp, ?_, zero, by simp [flen]; exact hk, hshort⟩
        rw [hR.cut hlt hno hk1 h24 hcode (by rw [hmany]; omega)]; simp [flen]
    · have hd2 : all.drop k = hdr m ++ (m.2.2.2.2 ++ (r.flatMap frameOf).take (t - (frameOf m).length)) := by
        rw [hd, List.take_append, List.take_of_length_le (by rw [← frameOf_hdr]; omega), ← frameOf_hdr, ← List.append_assoc, ← frameOf_hdr]
      have hlen : (frameOf m).length ≤ all.length - k := by
        rw [← hdl, hd2, ← List.append_assoc, ← frameOf_hdr, List.length_append]; omega
      have hk1 : inR (((all.drop k).headD 0).toNat : Int) 1 6 = true := by
        obtain ⟨a1, a2, _⟩ := msgCode_ok hm
        rw [hd2, head_kind hm]
        simp [inR]; omega
      have hh := head_frame hm (m.2.2.2.2 ++ (r.flatMap frameOf).take (t - (frameOf m).length))
      rw [← hd2] at hh
      have hmany : manyOf (all.drop k) = m.2.2.2.2.length := by unfold manyOf; rw [hh]
      have hcode : headCode (all.drop k) = 0 := by unfold headCode; rw [hh]; exact hm
      have h24 : all.drop (k + 24) = m.2.2.2.2 ++ (r.flatMap frameOf).take (t - (frameOf m).length) := by
        rw [← List.drop_drop, hd2, List.drop_append_of_le_length (by rw [hdr_len hm]; exact Nat.le_refl _), List.drop_of_length_le (by rw [hdr_len hm]; exact Nat.le_refl _)]; simp
      have hfm : feedMsg all k = m := by
        unfold feedMsg withBytes
        rw [hmany, hh, h24, List.take_left]
      have hN := hR.next hlt hno hk1 (by omega) hcode (by rw [hmany]; omega)
      rw [hmany, hfm] at hN
      obtain ⟨f', g1, g2, g3⟩ := hN
      have hk' : k + 24 + m.2.2.2.2.length = k + (frameOf m).length := by omega
      rw [hk'] at g1 g2 g3
      have hd4 : all.drop (k + (frameOf m).length) = (r.flatMap frameOf).take (t - (frameOf m).length) := by
        rw [← List.drop_drop, hd2, ← List.append_assoc, ← frameOf_hdr, List.drop_left]
      obtain ⟨j, j1, j2, j3, j4, j5⟩ := ih f' (k + (frameOf m).length) (t - (frameOf m).length) (out ++ [m]) (fun x hx => hv x (by simp [hx])) hd4 (by simp at hn ⊢; omega) (by omega) g1 g2
      have hfl : flen ((m :: r).take (j + 1)) = (frameOf m).length + flen (r.take j) := by simp [flen]
      refine ⟨j + 1, by simp; omega, ?_, ?_, ?_, ?_⟩ <;> rw [hfl]
      · rw [g3, j2]
        simp [Nat.add_assoc]
      · rw [← Nat.add_assoc, j3]
        simp [Nat.sub_sub]
      · omega
      · intro m' r' hr
        rw [← Nat.add_assoc]
        exact j5 m' r' (by simpa using hr)

/-- Fed at once. -/
theorem feed_frames {l : List Msg} (hl : l.length ≤ 20000) (hv : framesGo l = 0) (hs : (l.flatMap frameOf).length ≤ 2000000) : feed [] (l.flatMap frameOf) = (l, [], 0, 0) := by
  unfold feed
  rw [if_neg (by simp), if_neg (by omega), List.nil_append]
  obtain ⟨j, j1, j2, j3, j4, j5⟩ := feedGo_stream (l.flatMap frameOf) l (l.flatMap frameOf).length 0 (l.flatMap frameOf).length [] (framesGo_ok hv) (by rw [List.drop_zero, List.take_of_length_le (Nat.le_refl _)]) (by simpa using hl) (by omega) (by omega) (fun h => h)
  have hj : j = l.length := by
    rcases Nat.lt_or_ge j l.length with h | h
    · have hd := j5 l[j] (l.drop (j + 1)) (List.drop_eq_getElem_cons h)
      rw [j3, List.drop_eq_getElem_cons h] at hd
      have hsum : (l.flatMap frameOf).length = flen (l.take j) + ((l.drop j).flatMap frameOf).length := by
        conv => lhs; rw [← List.take_append_drop j l, List.flatMap_append, List.length_append]
        rfl
      rw [List.length_take, ← List.drop_eq_getElem_cons h, hsum, Nat.add_sub_cancel_left, Nat.min_self, List.drop_eq_getElem_cons h, List.flatMap_cons, List.length_append] at hd
      omega
    · omega
  subst hj
  rw [j2, j3]
  simp
end Go.Proofs.YteoojplgchlhcaaDoor
