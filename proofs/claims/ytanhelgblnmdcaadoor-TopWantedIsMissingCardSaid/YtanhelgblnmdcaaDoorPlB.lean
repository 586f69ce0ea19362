/-
  The plain law of the cache's steps: what was right stays right. No statement of the seat is proved here; no conditions.
-/
import Derived.Test.YtanhelgblnmdcaaDoorCaX
import Derived.Test.YtanhelgblnmdcaaDoorShP
import Derived.Test.YtanhelgblnmdcaaDoorDr
namespace Go.Proofs.YtanhelgblnmdcaaDoor
open Go.RowKit Go.Shelf
set_option linter.unusedVariables false
set_option linter.unusedSimpArgs false
set_option maxRecDepth 100000

structure BR (room : Int) (bl : List Blob) : Prop where
 len : bl.length ≤ 3000
 ok : ∀ b ∈ bl,blobOk b = true
 rise : Rising (fun b : Blob => b.1) bl
 sum : sumSz bl ≤ room
structure ER (en : List Entry) : Prop where
 len : en.length ≤ 1000
 ok : ∀ e ∈ en,entOk e = true
 rise : Rising (fun b : Entry => b.1) en
theorem CRight.b {c : Cache} (h : CRight c) : BR c.1 c.2.2.1 := ⟨h.blen,h.bok,h.brise,h.bsum⟩
theorem CRight.e {c : Cache} (h : CRight c) : ER c.2.2.2 := ⟨h.elen,h.eok,h.erise⟩
theorem rg_iff {n l h : Int} : inRg n l h = true ↔ l ≤ n ∧ n ≤ h := by simp [inRg]
theorem blobOk_iff {b : Blob} : blobOk b = true ↔ isDig b.1 = true ∧ (0 ≤ b.2.1 ∧ b.2.1 ≤ 100000000) ∧ (0 ≤ b.2.2.1 ∧ b.2.2.1 ≤ 1000000000) ∧ (0 ≤ b.2.2.2.1 ∧ b.2.2.2.1 ≤ 1001000000) ∧ (0 ≤ b.2.2.2.2 ∧ b.2.2.2.2 ≤ 3000) := by
 simp only [blobOk,Bool.and_eq_true,rg_iff,and_assoc]
theorem entOk_iff {e : Entry} : entOk e = true ↔ isDig e.1 = true ∧ ckDigsM e.2.1 200 = 0 ∧ (0 ≤ e.2.2 ∧ e.2.2 ≤ 1000000000) := by
 simp only [entOk,Bool.and_eq_true,rg_iff,decide_eq_true_eq]
theorem rising_map {α : Type} {key : α → ByteArray} {l : List α} : Rising key l ↔ (l.map key).Pairwise fun x y => strLt x y = true := by rw [rising_pw,List.pairwise_map]
theorem keys_rise {α : Type} {key : α → ByteArray} {l m : List α} (h : m.map key = l.map key) (hr : Rising key l) : Rising key m := by
 rw [rising_map,h];exact rising_map.1 hr
theorem keys_set {α : Type} {key : α → ByteArray} : ∀ {l : List α} {i : Nat} {y z : α},l[i]? = some y → key z = key y → (l.set i z).map key = l.map key
 | [],i,y,z,h,_ => by cases h
 | x :: l,0,y,z,h,hk => by
  obtain rfl : x = y := by simpa using h
  simp [hk]
 | x :: l,i + 1,y,z,h,hk => by
  rw [List.set_cons_succ,List.map_cons,List.map_cons,keys_set (l := l) (by simpa using h) hk]
theorem sum_set : ∀ {l : List Blob} {i : Nat} {y z : Blob},l[i]? = some y → z.2.1 = y.2.1 → sumSz (l.set i z) = sumSz l
 | [],i,y,z,h,_ => by cases h
 | x :: l,0,y,z,h,hk => by
  obtain rfl : x = y := by simpa using h
  simp [sumSz,hk]
 | x :: l,i + 1,y,z,h,hk => by
  rw [List.set_cons_succ,sumSz,sumSz,sum_set (l := l) (by simpa using h) hk]
theorem BR.set {room : Int} {bl : List Blob} (h : BR room bl) {i : Nat} {y z : Blob} (hy : bl[i]? = some y) (h1 : z.1 = y.1) (h2 : z.2.1 = y.2.1) (hz : blobOk z = true) : BR room (bl.set i z) :=
 ⟨by rw [List.length_set];exact h.len,fun b hb => (List.mem_or_eq_of_mem_set hb).elim (h.ok b) fun e => e ▸ hz,keys_rise (keys_set (key := fun b : Blob => b.1) hy h1) h.rise,by rw [sum_set hy h2];exact h.sum⟩
theorem ER.set {en : List Entry} (h : ER en) {i : Nat} {y z : Entry} (hy : en[i]? = some y) (h1 : z.1 = y.1) (hz : entOk z = true) : ER (en.set i z) :=
 ⟨by rw [List.length_set];exact h.len,fun b hb => (List.mem_or_eq_of_mem_set hb).elim (h.ok b) fun e => e ▸ hz,keys_rise (keys_set (key := fun b : Entry => b.1) hy h1) h.rise⟩
theorem BR.keep {room : Int} {bl : List Blob} (h : BR room bl) (p : Blob → Bool) : BR room (keepL p bl) :=
 ⟨Nat.le_trans (keep_le _ _) h.len,fun b hb => h.ok b (mem_of_keep hb),rising_keep p h.rise,Int.le_trans (sum_keep _ _ fun b hb => blobOk_size (h.ok b hb)) h.sum⟩
theorem over_eq {room lease : Int} {bl : List Blob} {size : Int} (hr : 0 ≤ room ∧ room ≤ 1000000000) (h : BR room bl) (hs : 0 ≤ size ∧ size ≤ 100000000) : overV room bl size = sumSz bl + size - room ∧ wsum bl = sumSz bl ∧ 0 ≤ sumSz bl ∧ ∀ b ∈ bl,0 ≤ b.2.1 ∧ b.2.1 ≤ 100000000 := by
 have hz : ∀ b ∈ bl,0 ≤ b.2.1 ∧ b.2.1 ≤ 100000000 := fun b hb => (blobOk_iff.1 (h.ok b hb)).2.1
 have h0 := (sum_range hz).1
 have hw : wsum bl = sumSz bl := wsum_eq (by have := h.len;omega) hz
 have := h.sum
 refine ⟨?_,hw,h0,hz⟩
 unfold overV
 rw [hw,wrap64 (n := room - size) (by omega) (by omega),wrap64 (by omega) (by omega)]
 omega
structure EvOk (e : Ev) : Prop where
 kind : 1 ≤ e.1 ∧ e.1 ≤ 8
 at_ : 0 ≤ e.2.1 ∧ e.2.1 ≤ 1000000000
 size : 0 ≤ e.2.2.2.2.2 ∧ e.2.2.2.2.2 ≤ 100000000
 digs : ckDigsM e.2.2.2.1 200 = 0
 dig : (flds e.1).1 = true → isDig e.2.2.1 = true
 key : (flds e.1).2.2.1 = true → isDig e.2.2.2.2.1 = true
 nodig : (flds e.1).1 = false → e.2.2.1 = ⟨#[]⟩
 nodigs : (flds e.1).2.1 = false → e.2.2.2.1 = []
 nokey : (flds e.1).2.2.1 = false → e.2.2.2.2.1 = ⟨#[]⟩
 nosize : (flds e.1).2.2.2 = false → e.2.2.2.2.2 = 0
theorem evOk_iff {e : Ev} : ckEv e = 0 ↔ EvOk e := by
 obtain ⟨kind,at_,dg,ds,key,size⟩ := e
 have hl : ∀ l : List ByteArray,decide ((0 : Int) < (l.length : Int)) = false ↔ l = [] := fun l => by
  cases l with
  | nil => simp
  | cons a l => simp
 unfold ckEv
 dsimp only
 constructor
 ·intro h
  split at h
  ·rename_i h0
   split at h
   ·cases h
   ·rename_i h1
    split at h
    ·cases h
    ·rename_i h2
     split at h
     ·rename_i h3
      split at h
      ·rename_i h4
       rw [Bool.and_eq_true,rg_iff,rg_iff] at h4
       rw [decide_eq_true_eq] at h3
       rw [rg_iff] at h0
       simp only [Bool.not_eq_true,Bool.or_eq_false_iff,Bool.and_eq_false_iff,Bool.not_eq_false'] at h1 h2
       obtain ⟨⟨⟨k1,k2⟩,k3⟩,k4⟩ := h1
       obtain ⟨k5,k6⟩ := h2
       refine ⟨h0,h4.2,h4.1,h3,fun h => ?_,fun h => ?_,fun h => ?_,fun h => ?_,fun h => ?_,fun h => ?_⟩
       all_goals simp_all
      ·cases h
     ·rename_i h3
      rw [h] at h3;simp at h3
  ·cases h
 ·rintro ⟨h1,h2,h3,h4,h5,h6,h7,h8,h9,h10⟩
  dsimp only at h1 h2 h3 h4 h5 h6 h7 h8 h9 h10
  rw [if_pos (rg_iff.2 h1),if_neg ?_,if_neg ?_,if_pos (by simpa using h4),if_pos (by rw [Bool.and_eq_true,rg_iff,rg_iff];exact ⟨h3,h2⟩)]
  ·cases h : (flds kind).1 <;> cases h' : (flds kind).2.2.1 <;> simp_all
  ·cases h : (flds kind).1 <;> cases h' : (flds kind).2.2.1 <;> cases h'' : (flds kind).2.1 <;> cases h''' : (flds kind).2.2.2 <;> simp_all
end Go.Proofs.YtanhelgblnmdcaaDoor
