/-
  What labels, patterns and names consist of (plain Lean). No statement of the seat is proved here; no conditions.
-/
import Derived.Test.YtagkdifaldikgaaGreatDoorQdA
namespace Go.Proofs.YtagkdifaldikgaaGreatDoor
open Go.RowKit Go.Shelf
set_option linter.unusedVariables false
set_option linter.unusedSimpArgs false
set_option maxRecDepth 100000

def spl (c : UInt8) : List UInt8 → List (List UInt8)
 | [] => [[]]
 | b :: l => if b = c then [] :: spl c l else match spl c l with
  | x :: r => (b :: x) :: r
  | [] => [[b]]
theorem spl_none {c : UInt8} : ∀ {x : List UInt8},c ∉ x → spl c x = [x]
 | [],_ => rfl
 | b :: x,h => by
  rw [spl,if_neg (show ¬ b = c from fun e => h (e ▸ List.mem_cons_self)),spl_none fun e => h (List.mem_cons_of_mem _ e)]
theorem spl_hit {c : UInt8} (r : List UInt8) : ∀ {x : List UInt8},c ∉ x → spl c (x ++ c :: r) = x :: spl c r
 | [],_ => by rw [List.nil_append,spl,if_pos rfl]
 | b :: x,h => by
  rw [List.cons_append,spl,if_neg (show ¬ b = c from fun e => h (e ▸ List.mem_cons_self)),spl_hit r fun e => h (List.mem_cons_of_mem _ e)]
theorem spl_ne (c : UInt8) : ∀ l : List UInt8,spl c l ≠ []
 | [],h => by simp [spl] at h
 | b :: l,h => by
  unfold spl at h
  split at h
  ·simp at h
  ·split at h <;> simp at h
theorem join_two (x y : List UInt8) (r : List (List UInt8)) (c : UInt8) : Lib.join (x :: y :: r) [c] = x ++ c :: Lib.join (y :: r) [c] := by
 rw [Lib.join_cons,Lib.join_cons]
 simp [Lib.joinTail]
theorem join_spl (c : UInt8) : ∀ l : List UInt8,Lib.join (spl c l) [c] = l
 | [] => rfl
 | b :: l => by
  have ih := join_spl c l
  have hne := spl_ne c l
  rw [spl]
  cases hq : spl c l with
  | nil => exact absurd hq hne
  | cons x r =>
   rw [hq] at ih
   by_cases h : b = c
   ·rw [if_pos h,join_two,ih,h];rfl
   ·rw [if_neg h]
    show Lib.join ((b :: x) :: r) [c] = b :: l
    rw [Lib.join_cons] at ih ⊢
    rw [List.cons_append,ih]
theorem ixb_split {l : List UInt8} {c : UInt8} {i : Nat} (h : Lib.indexByte l c = i) : l = l.take i ++ c :: l.drop (i + 1) ∧ c ∉ l.take i := by
 obtain ⟨h1,h2⟩ := Lib.indexByte_some h
 obtain ⟨hlt,he⟩ := List.getElem?_eq_some_iff.1 h1
 refine ⟨?_,fun hm => ?_⟩
 ·have := List.take_append_drop i l
  rw [List.drop_eq_getElem_cons hlt,he] at this
  exact this.symm
 ·obtain ⟨k,hk⟩ := List.getElem?_of_mem hm
  have hk2 := (List.getElem?_eq_some_iff.1 hk).1
  rw [List.length_take] at hk2
  rw [List.getElem?_take_of_lt (by omega)] at hk
  exact h2 k (by omega) hk
theorem ixb_none {l : List UInt8} {c : UInt8} (h : Lib.indexByte l c = -1) : c ∉ l := fun hm => by
 obtain ⟨k,hk⟩ := List.getElem?_of_mem hm
 exact Lib.indexByte_none h k hk
theorem splitK_spl (c : UInt8) : ∀ (k : Nat) (l : List UInt8),l.count c = k → Lib.splitK [c] 0 k l = spl c l
 | 0,l,h => by
  rw [Lib.splitK,spl_none (List.count_eq_zero.1 h)]
 | k + 1,l,h => by
  rw [Lib.splitK,Lib.index_one]
  have hge := Lib.indexByte_ge l c
  by_cases hm : Lib.indexByte l c = -1
  ·have h0 := List.count_eq_zero.2 (ixb_none hm)
   omega
  ·obtain ⟨i,hi⟩ : ∃ i : Nat,Lib.indexByte l c = i := ⟨(Lib.indexByte l c).toNat,by omega⟩
   have hb : ¬ (Lib.indexByte l c == -1) = true := fun e => hm (beq_iff_eq.1 e)
   rw [if_neg hb,hi]
   show l.take (i + 0) :: Lib.splitK [c] 0 k (l.drop (i + 1)) = _
   obtain ⟨h1,h2⟩ := ixb_split hi
   have hc : (l.drop (i + 1)).count c = k := by
    rw [h1,List.count_append,List.count_cons_self,List.count_eq_zero.2 h2] at h
    omega
   rw [Nat.add_zero,splitK_spl c k _ hc]
   conv => rhs;rw [h1]
   rw [spl_hit _ h2]
theorem splitS_spl (s : ByteArray) (c : UInt8) : (splitS s c).map (·.data.toList) = spl c s.data.toList := by
 unfold splitS
 rw [Lib.splitB_data]
 refine splitK_spl c _ _ ?_
 show s.data.toList.count c = Lib.count s.data.toList [c]
 rw [Lib.count_one]
theorem mem_join {c : UInt8} {d : UInt8} : ∀ {ws : List (List UInt8)},c ∈ Lib.join ws [d] → c = d ∨ ∃ w ∈ ws,c ∈ w
 | [],h => by simp [Lib.join] at h
 | [x],h => .inr ⟨x,by simp,by simpa [Lib.join] using h⟩
 | x :: y :: r,h => by
  rw [join_two] at h
  rcases List.mem_append.1 h with h | h
  ·exact .inr ⟨x,by simp,h⟩
  rcases List.mem_cons.1 h with h | h
  ·exact .inl h
  ·rcases mem_join h with h | ⟨w,hw,hc⟩
   ·exact .inl h
   ·exact .inr ⟨w,List.mem_cons_of_mem _ hw,hc⟩
theorem part_all : ∀ n : _root_.Fin 256,inPartV (UInt8.ofNat n.val).toNat = true → isLb (UInt8.ofNat n.val) = true := by decide +kernel
theorem part_lb (b : UInt8) (h : inPartV b.toNat = true) : isLb b = true := by
 have := part_all ⟨b.toNat,b.toNat_lt⟩
 simp at this
 exact this h
theorem path_lb {p : ByteArray} (h : isPathV p = true) : p.data.toList.all isLb = true := by
 unfold isPathV at h
 rw [Bool.and_eq_true] at h
 refine List.all_eq_true.2 fun c hc => ?_
 rw [← join_spl 47 p.data.toList] at hc
 rcases mem_join hc with rfl | ⟨w,hw,hcw⟩
 ·decide
 ·rw [← splitS_spl] at hw
  obtain ⟨x,hx,rfl⟩ := List.mem_map.1 hw
  have h2 := List.all_eq_true.1 h.2 x hx
  unfold isPartV at h2
  rw [Bool.and_eq_true] at h2
  exact part_lb c (List.all_eq_true.1 h2.1 c hcw)
theorem pre_data {s p : ByteArray} (h : hasPre s p = true) : s.data.toList = p.data.toList ++ (cutPre s p).data.toList := by
 have h0 := h
 unfold hasPre at h
 rw [Bool.and_eq_true,decide_eq_true_eq,decide_eq_true_eq] at h
 obtain ⟨h1,h2⟩ := h
 have hsz : s.data.toList.length = s.size := by simp
 have e1 : (s.extract 0 p.size).data.toList = s.data.toList.take p.size := by
  rw [ByteArray.data_extract,Array.toList_extract];simp [List.extract]
 have e2 : (cutPre s p).data.toList = s.data.toList.drop p.size := by
  unfold cutPre
  rw [if_pos h0,ByteArray.data_extract,Array.toList_extract]
  simp only [List.extract]
  exact List.take_of_length_le (by rw [List.length_drop];omega)
 rw [h2] at e1
 rw [e2,e1,List.take_append_drop]
theorem suf_data {s p : ByteArray} : (trimSuf s p).data.toList = s.data.toList ∨ s.data.toList = (trimSuf s p).data.toList ++ p.data.toList := by
 unfold trimSuf
 by_cases h : hasSuf s p = true
 ·rw [if_pos h]
  right
  unfold hasSuf at h
  rw [Bool.and_eq_true,decide_eq_true_eq,decide_eq_true_eq] at h
  obtain ⟨h1,h2⟩ := h
  have hsz : s.data.toList.length = s.size := by simp
  have e1 : (s.extract (s.size - p.size) s.size).data.toList = s.data.toList.drop (s.size - p.size) := by
   rw [ByteArray.data_extract,Array.toList_extract]
   simp only [List.extract]
   exact List.take_of_length_le (by rw [List.length_drop];omega)
  have e2 : (s.extract 0 (s.size - p.size)).data.toList = s.data.toList.take (s.size - p.size) := by
   rw [ByteArray.data_extract,Array.toList_extract];simp [List.extract]
  rw [h2] at e1
  rw [e2,e1,List.take_append_drop]
 ·rw [if_neg h];exact .inl rfl
theorem wd : Wd where
 lab t h := by
  unfold isWholeV at h
  rw [Bool.and_eq_true,decide_eq_true_eq] at h
  obtain ⟨h1,h2⟩ := h
  unfold okLab ckLab at h1
  rw [Bool.and_eq_true,Bool.or_eq_true,decide_eq_true_eq] at h1
  generalize (labOf t).1 = a at *
  generalize (labOf t).2 = b at *
  have ha : a.data.toList.all isLb = true := by
   rcases h1.1 with h | h
   ·rw [h];rfl
   ·exact path_lb h
  have hb := path_lb h1.2
  have e : t.data.toList = 47 :: 47 :: (a.data.toList ++ 58 :: b.data.toList) := by
   rw [← h2]
   unfold wholeS
   simp [ByteArray.data_append]
  refine ⟨⟨_,e⟩,?_⟩
  rw [e]
  simp only [List.all_cons,List.all_append,ha,hb]
  decide
 pat t h := by
  unfold isPatV at h
  rw [Bool.and_eq_true] at h
  obtain ⟨h1,h2⟩ := h
  have e := pre_data h1
  generalize cutPre t ⟨#[47,47]⟩ = r at *
  have hr : r.data.toList.all isLb = true := by
   rw [Bool.or_eq_true,Bool.or_eq_true,decide_eq_true_eq,decide_eq_true_eq,Bool.and_eq_true] at h2
   rcases h2 with h2 | h2 | h2
   ·rw [h2];rfl
   ·rw [h2];decide
   ·have h3 := path_lb h2.1
    rcases suf_data (s := r) (p := ⟨#[47,46,46,46]⟩) with h4 | h4
    ·rw [h4] at h3;exact h3
    ·rw [h4,List.all_append,h3];decide
  have e' : t.data.toList = 47 :: 47 :: r.data.toList := e
  refine ⟨⟨_,e'⟩,?_⟩
  rw [e']
  simp only [List.all_cons,hr]
  decide
 nam t h := by
  unfold isNameV at h
  cases hl : t.data.toList with
  | nil => rw [hl] at h;cases h
  | cons b l =>
   rw [hl] at h
   simp only [Bool.and_eq_true] at h
   obtain ⟨_,h2,h3,_⟩ := h
   have key : ∀ n : _root_.Fin 256,inRg (UInt8.ofNat n.val).toNat 97 122 = true → isDg (UInt8.ofNat n.val) = false := by decide +kernel
   refine ⟨b,rfl,?_,?_⟩
   ·have := key ⟨b.toNat,b.toNat_lt⟩
    simp at this
    exact this h2
   ·refine List.all_eq_true.2 fun c hc => ?_
    rw [← (byte_is c).1]
    exact List.all_eq_true.1 h3 c hc
end Go.Proofs.YtagkdifaldikgaaGreatDoor
